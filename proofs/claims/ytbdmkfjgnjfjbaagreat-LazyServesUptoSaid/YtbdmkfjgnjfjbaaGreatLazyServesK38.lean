/- The reference's way. | The codes on the way to a key: plain Lean. | proof.size. | proof.next. | proof.Check. | proof.Make: what lies there. -/
import Derived.Test.YtbdmkfjgnjfjbaaGreatLazyServesK37
import Derived.Test.YtbdmkfjgnjfjbaaGreatLazyServesK06
import Derived.Test.YtbdmkfjgnjfjbaaGreatLazyServesK29
import Derived.Test.YtbdmkfjgnjfjbaaGreatLazyServesK02
import Derived.Test.YtbdmkfjgnjfjbaaGreatLazyServesK01
import Derived.Test.YtbdmkfjgnjfjbaaGreatLazyServesK08
import Derived.Deep.Cut
import Derived.Test.YtbdmkfjgnjfjbaaGreatLazyServesK25
set_option linter.unusedSimpArgs false
set_option linter.unusedVariables false
set_option maxHeartbeats 4000000
set_option maxRecDepth 100000
namespace Go.Proofs.YtbdmkfjgnjfjbaaGreat
open Go.RowKit
theorem Qku (kd:Int)(pa:Option Addr)(pn pc:Nat)(p q:List UInt8)(hpn:p.length=pn)(hq:q.length≤1000000000)(w:World)(hp:Bytes w (.slice pa pn pc) p)(hk:kd=0∨kd=1∨kd=2∨kd=3) :
  Calls Tryz.prog 120 #[.int .i64 kd,.slice pa pn pc,.string ⟨q.toArray⟩] w fun e w'=>e=.returned (.tuple #[.int .i64 (wayP kd p q).1,.string ⟨(wayP kd p q).2.1.toArray⟩,.bool (wayP kd p q).2.2])∧Below w.heap.size w w':=by
 have c1:=fun u:Ext w=>Q0h (P:=Tryz.prog) (src:=25) (dst:=9) elU8.ht (by kernel_rfl) (by kernel_rfl) (hp.below u.bel)
 have hsz:=Q45 q
 rcases hk with rfl|rfl|rfl|rfl
 ·go_enter Tryz.func120,Tryz.ntmps120
  go_wp2_with fail
  go_ret3
  exact ⟨rfl,Below.refl _ _⟩
 ·have hw:wayP 1 p q=(-1,[],p==q):=rfl
  rw [hw]
  go_enter Tryz.func120,Tryz.ntmps120
  go_wp2_with fail
  refine Q02 w 7 (by kernel_rfl) (by kernel_rfl) (Below.refl _ _) ?_;simp only [List.take_succ_cons,List.take_zero,List.take_nil]
  iterate 7 (refine Q01 (by rfl) (fun K hK=>?_);go_simp;refine hK _ ?_;clear hK K)
  refine Q09 ?_
  intro u2 hb2
  simp only [List.reverse_nil,Q00]
  change wpList _ _ _ [] _ _
  go_wp2_with fail
  go_ret3
  exact ⟨rfl,hb2⟩
 ·have hw:wayP 2 p q=if p.length≤q.length∧q.take p.length=p then (0,q.drop p.length,false) else (-1,[],false):=rfl
  rw [hw]
  by_cases hle:p.length≤q.length
  ·have r1:=str_to (P:=Tryz.prog) (t:=9) (by kernel_rfl) q pn (pn:Int) rfl (by omega)
   have r2:=Q85 (P:=Tryz.prog) (t:=9) (by kernel_rfl) q pn (pn:Int) rfl (by omega)
   have hle2:(pn:Int)≤(q.length:Int):=by omega
   by_cases he:q.take p.length=p
   ·rw [if_pos ⟨hle,he⟩]
    rw [hpn] at he ⊢
    have Hle:=Qhd hle
    clear hle
    go_enter Tryz.func120,Tryz.ntmps120
    go_wp2_with fail
    refine Q02 w 14 (by kernel_rfl) (by kernel_rfl) (Below.refl _ _) ?_;simp only [List.take_succ_cons,List.take_zero,List.take_nil]
    iterate 14 (refine Q01 (by rfl) (fun K hK=>?_);go_simp;refine hK _ ?_;clear hK K)
    refine Q09 ?_
    intro u2 hb2
    simp only [List.reverse_nil,Q00]
    change wpList _ _ _ [] _ _
    go_wp2_with fail
    refine Q02 u2 7 (by kernel_rfl) (by kernel_rfl) (Below.refl _ _) ?_;simp only [List.take_succ_cons,List.take_zero,List.take_nil]
    iterate 7 (refine Q01 (by rfl) (fun K hK=>?_);go_simp;refine hK _ ?_;clear hK K)
    refine Q09 ?_
    intro u3 hb3
    simp only [List.reverse_nil,Q00]
    change wpList _ _ _ [] _ _
    go_wp2_with fail
    go_ret3
    exact ⟨rfl,Below.then hb2 hb3⟩
   ·rw [if_neg (fun e=>he e.2)]
    rw [hpn] at he
    have he2:(q.take pn==p)=false:=by rw [beq_eq_false_iff_ne];exact he
    have Hle:=Qhd hle
    clear hle he
    go_enter Tryz.func120,Tryz.ntmps120
    go_wp2_with fail
    refine Q02 w 14 (by kernel_rfl) (by kernel_rfl) (Below.refl _ _) ?_;simp only [List.take_succ_cons,List.take_zero,List.take_nil]
    iterate 14 (refine Q01 (by rfl) (fun K hK=>?_);go_simp;refine hK _ ?_;clear hK K)
    refine Q09 ?_
    intro u2 hb2
    simp only [List.reverse_nil,Q00]
    change wpList _ _ _ [] _ _
    go_wp2_with fail
    go_ret3
    exact ⟨rfl,hb2⟩
  ·have hle2:¬ (pn:Int)≤(q.length:Int):=by omega
   rw [if_neg (fun e=>hle e.1)]
   rw [hpn] at hle
   clear hle2
   go_enter Tryz.func120,Tryz.ntmps120
   go_wp2_with fail
   refine Q02 w 14 (by kernel_rfl) (by kernel_rfl) (Below.refl _ _) ?_;simp only [List.take_succ_cons,List.take_zero,List.take_nil]
   iterate 14 (refine Q01 (by rfl) (fun K hK=>?_);go_simp;refine hK _ ?_;clear hK K)
   refine Q09 ?_
   intro u2 hb2
   simp only [List.reverse_nil,Q00]
   change wpList _ _ _ [] _ _
   go_wp2_with fail
   go_ret3
   exact ⟨rfl,hb2⟩
 ·cases q with
  | nil =>
   go_enter Tryz.func120,Tryz.ntmps120
   go_wp2_with fail
   go_ret3
   exact ⟨rfl,Below.refl _ _⟩
  | cons x q =>
   have r1:=str_at (P:=Tryz.prog) (t:=9) (by kernel_rfl) (x::q) 0 0 rfl x rfl
   have r2:=Q85 (P:=Tryz.prog) (t:=9) (by kernel_rfl) (x::q) 1 1 rfl (by simp)
   have hwx:IntKind.i64.wrap (x.toNat:Int)=(x.toNat:Int):=IntWalk.i64_in _ (by have:=x.toNat_lt;omega)
   have hw:wayP 3 p (x::q)=((x.toNat:Int),q,false):=rfl
   rw [hw]
   change ∀ k w,(Instr.slice 9 (.string ⟨(x::q).toArray⟩) (some (.int k 1)) none none).run Tryz.prog w=.ok (.string ⟨q.toArray⟩) w at r2
   go_enter Tryz.func120,Tryz.ntmps120
   go_wp2_with fail
   refine Q02 w 8 (by kernel_rfl) (by kernel_rfl) (Below.refl _ _) ?_;simp only [List.take_succ_cons,List.take_zero,List.take_nil]
   iterate 8 (refine Q01 (by rfl) (fun K hK=>?_);go_simp;refine hK _ ?_;clear hK K)
   refine Q09 ?_
   intro u2 hb2
   simp only [List.reverse_nil,Q00]
   change wpList _ _ _ [] _ _
   go_wp2_with fail
   go_ret3
   exact ⟨rfl,hb2⟩
mutual
def szN:Nd→Nat
 | .mk kd _ _ _ _ _ ks=>if kd=0 then 0 else if kd=1 then 1 else 1+szL ks
def szL:List Nd→Nat
 | []=>0
 | k::ks=>szN k+szL ks
end
mutual
theorem alN_sz:∀ (t:Nd),t.kd≠0→(alN t).length=szN t
 | .mk kd pv p vv v kv ks,h=>by
  have h0:kd≠0:=h
  rw [alN,szN,List.length_cons,if_neg h0]
  by_cases h1:kd=1
  ·rw [if_pos h1,if_pos h1];rfl
  ·rw [if_neg h1,if_neg h1,alL_sz ks];omega
theorem alL_sz:∀ (ks:List Nd),(alL ks).length=szL ks
 | []=>by rw [alL,szL];rfl
 | k::ks=>by
  rw [alL,szL,List.length_append,alL_sz ks]
  by_cases h:k.kd=0
  ·rw [if_pos h]
   obtain ⟨kd,pv,p,vv,v,kv,ks'⟩:=k
   have h0:kd=0:=h
   rw [szN,if_pos h0];rfl
  ·rw [if_neg h,alN_sz k h]
end
mutual
theorem szN_le:∀ (t:Nd),szN t≤bulkN t
 | .mk kd pv p vv v kv ks=>by
  rw [szN,bulkN]
  have:=szL_le ks
  split
  ·omega
  ·split<;>omega
theorem szL_le:∀ (ks:List Nd),szL ks≤bulkNL ks
 | []=>by rw [szL,bulkNL];omega
 | k::ks=>by rw [szL,bulkNL];have:=szN_le k;have:=szL_le ks;omega
end
theorem Q84:∀ (ks:List Nd)(k:Nd),szL (ks++[k])=szL ks+szN k
 | [],k=>by rw [List.nil_append,szL,szL,szL];omega
 | x::ks,k=>by rw [List.cons_append,szL,szL,Q84 ks k];omega
theorem Q83 (ks:List Nd)(k:Nat):szL (ks.take k)≤szL ks:=by
 rw [←alL_sz,←alL_sz]
 have:∀ (a b:List Nd),(alL a).length≤(alL (a++b)).length:=by
  intro a b
  induction a with
  | nil=>simp [alL]
  | cons x a ih=>rw [List.cons_append,alL,alL,List.length_append,List.length_append];omega
 have h:=this (ks.take k) (ks.drop k)
 rwa [List.take_append_drop] at h
theorem alL_at:∀ (ks:List Nd)(i:Nat)(k:Nd),ks[i]?=some k→k.kd≠0→∃ l,(alL ks).drop (szL (ks.take i))=alN k++l
 | [],i,k,h,_=>by simp at h
 | x::ks,0,k,h,h0=>by
  simp only [List.getElem?_cons_zero,Option.some.injEq] at h
  subst h
  rw [List.take_zero,szL,List.drop_zero,alL,if_neg h0]
  exact ⟨_,rfl⟩
 | x::ks,i+1,k,h,h0=>by
  rw [List.getElem?_cons_succ] at h
  obtain ⟨l,hl⟩:=alL_at ks i k h h0
  refine ⟨l,?_⟩
  rw [List.take_succ_cons,szL,alL,←hl]
  by_cases hx:x.kd=0
  ·rw [if_pos hx,List.nil_append]
   have:szN x=0:=by
    obtain ⟨kd,pv,p,vv,v,kv,ks'⟩:=x
    have h0:kd=0:=hx
    rw [szN,if_pos h0]
   rw [this,Nat.zero_add]
  ·rw [if_neg hx,←alN_sz x hx,List.drop_append]
   rw [List.drop_of_length_le (by omega),List.nil_append]
   congr 1;omega
def rst (kd:Int)(path p:List UInt8):Option (Nat × List UInt8) :=
 if kd=2 then (if com path p=path.length then some (0,p.drop path.length) else none)
 else if kd=3 then (match p with
  | []=>none
  | x::q=>some (x.toNat,q))
 else none
def hdN (t:Nd):List UInt8:=(whN t).headD []
def dn:Nat→Nd→List UInt8→List (List UInt8)
 | 0,t,_=>[hdN t]
 | n+1,.mk kd pv path vv v kv ks,p=>hdN (.mk kd pv path vv v kv ks)::(match rst kd path p with
  | none=>[]
  | some (i,q)=>match ks[i]? with
   | none=>[]
   | some k=>if k.kd=0 then [] else dn n k q)
theorem hdN_kd {t:Nd}(h:t.kd≠0):hdN t=cdN t:=by
 unfold hdN whN
 rw [if_neg h]
 obtain ⟨l,hl⟩:=alN_ne t
 rw [hl];rfl
theorem whN_hd (t:Nd):∃ l,whN t=hdN t::l:=by
 obtain ⟨c,l,h⟩:=whN_ne t
 exact ⟨l,by unfold hdN;rw [h];rfl⟩
theorem Ql1 (kd:Int)(path p:List UInt8):(rst kd path p=none∧(wayP kd path p).1=-1)∨∃ i q,rst kd path p=some (i,q)∧(wayP kd path p).1=(i:Int)∧(wayP kd path p).2.1=q:=by
 unfold rst wayP
 by_cases h2:kd=2
 ·subst h2
  by_cases hc:com path p=path.length
  ·have hc':=(Qia path p).1 hc
   exact .inr ⟨0,p.drop path.length,by simp [hc],by simp [hc'.1,hc'.2],by simp [hc'.1,hc'.2]⟩
  ·have hc':¬ (path.length≤p.length∧p.take path.length=path):=fun e=>hc ((Qia path p).2 e)
   exact .inl ⟨by simp [hc],by rw [if_neg (by decide),if_pos rfl,if_neg hc']⟩
 ·rw [if_neg h2]
  by_cases h3:kd=3
  ·subst h3
   cases p with
   | nil=>exact .inl ⟨rfl,rfl⟩
   | cons x q=>exact .inr ⟨x.toNat,q,rfl,rfl,rfl⟩
  ·rw [if_neg h3]
   refine .inl ⟨rfl,?_⟩
   by_cases h1:kd=1
   ·rw [if_pos h1]
   ·rw [if_neg h1,if_neg h2,if_neg h3]
theorem Q48 {kd:Int}{path p q:List UInt8}{i:Nat}(h:rst kd path p=some (i,q))(hp:∀ x∈p,x.toNat<16):(∀ x∈q,x.toNat<16)∧q.length≤p.length∧i<16:=by
 unfold rst at h
 by_cases h2:kd=2
 ·rw [if_pos h2] at h
  split at h
  ·simp only [Option.some.injEq,Prod.mk.injEq] at h
   obtain ⟨rfl,rfl⟩:=h
   exact ⟨fun x hx=>hp x (List.mem_of_mem_drop hx),by simp,by omega⟩
  ·cases h
 ·rw [if_neg h2] at h
  split at h
  ·cases p with
   | nil=>cases h
   | cons x r =>
    simp only [Option.some.injEq,Prod.mk.injEq] at h
    obtain ⟨rfl,rfl⟩:=h
    exact ⟨fun y hy=>hp y (List.mem_cons_of_mem _ hy),by simp,hp x List.mem_cons_self⟩
  ·cases h
theorem Q4r {kd:Int}{pv:Value}{path:List UInt8}{vv:Value}{v:List UInt8}{kv:Value}{ks:List Nd}{d:Nat}(h:rgt d (.mk kd pv path vv v kv ks)=true){p q:List UInt8}{i:Nat}(hr:rst kd path p=some (i,q))(hp:∀ x∈p,x.toNat<16) :
  ∃ k d',ks[i]?=some k∧rgt d' k=true∧(kd=2→k.kd=3∧ks=[k])∧(kd=3→ks.length=16):=by
 have hmem:∀ (d:Nat) (l:List Nd),rgtL d l=true→∀ k∈l,rgt d k=true:=by
  intro d l
  induction l with
  | nil=>intro _ k hk;simp at hk
  | cons x l ih =>
   intro h k hk
   rw [rgtL,Bool.and_eq_true] at h
   rcases List.mem_cons.1 hk with rfl|hk
   ·exact h.1
   ·exact ih h.2 k hk
 have h16:=(Q48 hr hp).2.2
 unfold rst at hr
 unfold rgt at h
 by_cases h2:kd=2
 ·subst h2
  rw [if_neg (by decide),if_neg (by decide),if_pos rfl] at h
  simp only [Bool.and_eq_true,decide_eq_true_eq] at h
  obtain ⟨k,rfl⟩:=List.length_eq_one_iff.1 h.1.1.2
  rw [if_pos rfl] at hr
  split at hr
  ·simp only [Option.some.injEq,Prod.mk.injEq] at hr
   obtain ⟨rfl,rfl⟩:=hr
   exact ⟨k,_,rfl,hmem _ _ h.2 k List.mem_cons_self,fun _=>⟨by simpa using h.1.2,rfl⟩,fun e=>absurd e (by decide)⟩
  ·cases hr
 ·rw [if_neg h2] at hr
  by_cases h3:kd=3
  ·subst h3
   rw [if_neg (by decide),if_neg (by decide),if_neg (by decide),if_pos rfl] at h
   simp only [Bool.and_eq_true,decide_eq_true_eq] at h
   have hl:ks.length=16:=h.1.1.1.1
   exact ⟨ks[i]'(by omega),d+1,List.getElem?_eq_getElem _,hmem _ _ h.1.2 _ (List.getElem_mem _),fun e=>absurd e (by decide),fun _=>hl⟩
  ·rw [if_neg h3] at hr;cases hr
theorem Qfr (kd:Int)(pa va ka:Option Addr)(pn pc vn vc kn kc:Nat)(ks:List Nd)(hkn:ks.length=kn)(w:World)(hk:RowOf Q03 4 w (.slice ka kn kc) ks)(hB:szL ks≤10000000000)(hK:kn≤10000000000)(ho:∀ k∈ks,∀ u∈Q03 k,u.oneCell'=true)
  (ih:∀ k∈ks,∀ u,Below w.heap.size w u→Calls Tryz.prog 92 #[.agg (Q03 k).toArray] u fun e w'=>e=.returned (.int .i64 (szN k:Int))∧Below u.heap.size u w') :
  Calls Tryz.prog 92 #[.agg #[.int .i64 kd,.slice pa pn pc,.slice va vn vc,.slice ka kn kc]] w fun e w'=>e=.returned (.int .i64 ((if kd=0 then 0 else if kd=1 then 1 else 1+szL ks:Nat):Int))∧Below w.heap.size w w':=by
 obtain ⟨w1,hw1⟩:∃ w1,w1=w.alloc (.cells #[.int .i64 kd,.slice pa pn pc,.slice va vn vc,.slice ka kn kc] 70):=⟨_,rfl⟩
 have z1:Blk 70 w1 w.heap.size [.int .i64 kd,.slice pa pn pc,.slice va vn vc,.slice ka kn kc]:=by rw [hw1];exact Blk.new w _ _
 have hbel:Below w.heap.size w w1:=by rw [hw1];exact Qba _ _
 have c0:w1.cell? ⟨w.heap.size,0,none⟩=some (.int .i64 kd):=z1.cell 0
 have c3:w1.cell? ⟨w.heap.size,3,none⟩=some (.slice ka kn kc):=z1.cell 3
 have Hw1:=Qhd hw1
 have IH:=Qhd ih
 have Hkn:=Qhd hkn
 have Hk:=Qhd hk
 have HB:=Qhd hB
 have HO:=Qhd ho
 clear hw1 ih hkn hk hB ho
 by_cases h0:kd=0
 ·subst h0
  go_enter Tryz.func92,Tryz.ntmps92
  go_wp2_with (rw [←Hw1.out])
  go_ret
  exact ⟨rfl,hbel⟩
 ·have n0:(kd==0)=false:=by rw [beq_eq_false_iff_ne];exact h0
  by_cases h1:kd=1
  ·subst h1
   go_enter Tryz.func92,Tryz.ntmps92
   go_wp2_with (rw [←Hw1.out])
   go_ret
   exact ⟨rfl,hbel⟩
  ·have n1:(kd==1)=false:=by rw [beq_eq_false_iff_ne];exact h1
   rw [if_neg h0,if_neg h1]
   clear h0 h1
   go_enter Tryz.func92,Tryz.ntmps92
   go_wp2_with (rw [←Hw1.out])
   go_loopw [3,16] (fun sv ix wr=>∃ k:Nat,k≤kn∧sv=.int .i64 ((1+szL (ks.take k):Nat):Int)∧ix=.int .i64 (k:Int)∧Below w.heap.size w wr) (fun _ ix _=>kn - (intOf ix).toNat)
   case atStart=>exact ⟨0,Nat.zero_le _,by rw [List.take_zero,szL];rfl,rfl,hbel⟩
   case round =>
    obtain ⟨k,hk,rfl,rfl,bb⟩:=hrel
    by_cases hlt:k<kn
    ·have hki:(k:Int)<(kn:Int):=by omega
     have hlk:k<ks.length:=by rw [Hkn.out];exact hlt
     obtain ⟨b,off,rfl,hr⟩:=RowOf.range Q06 (Hk.out.below bb) k hlk
     obtain ⟨x,hx⟩:∃ x,ks[k]=x:=⟨_,rfl⟩
     have hxm:x∈ks:=by rw [←hx];exact List.getElem_mem hlk
     have HT:Hid (szL (ks.take (k+1))=szL (ks.take k)+szN x):=Qhd (by rw [List.take_add_one,List.getElem?_eq_getElem hlk,hx];exact Q84 _ x)
     have hle:szL (ks.take (k+1))≤10000000000:=Nat.le_trans (Q83 ks (k+1)) HB.out
     rw [HT.out] at hle
     rw [hx] at hr
     have ihx:=Qhd (IH.out x hxm)
     obtain ⟨K,hK⟩:∃ K,K=Q03 x:=⟨_,rfl⟩
     have hKl:Hid (K.length=4):=Qhd (by rw [hK];exact Q06 x)
     have hKo:Hid (∀ u∈K,u.oneCell'=true):=Qhd (by rw [hK];exact HO.out x hxm)
     rw [←hK] at hr
     have Ihx:Hid (∀ u,Below w.heap.size w u→Calls Tryz.prog 92 #[.agg K.toArray] u fun e w'=>e=.returned (.int .i64 (szN x:Int))∧Below u.heap.size u w'):=Qhd (by rw [hK];exact ihx.out)
     obtain ⟨s0,hs0⟩:∃ s,s=szL (ks.take k):=⟨_,rfl⟩
     obtain ⟨s1,hs1⟩:∃ s,s=szN x:=⟨_,rfl⟩
     rw [←hs0,←hs1] at hle HT
     rw [←hs1] at Ihx
     rw [←hs0]
     have Hs0:=Qhd hs0
     clear hx hxm hlk ihx hK hs0 hs1 hlt hk
     go_wp2_with (first
      |((with_reducible refine Qgl 19 ?_);refine Qlw 70 18 b (off+k*4) Q05 hKl.out hr ?_)
      |((with_reducible refine Qgs 19 ?_);refine Qsa 70 5 19 wr.heap.size K Q05 (old:=[.int .i64 0,.slice none 0 0,.slice none 0 0,.slice none 0 0]) (Blk.new wr _ _) hKl.out (by rfl) hKo.out (Qba wr _) (Nat.le_refl _) ?_;intro w4 y4 b4 _;have bb:=Below.then bb b4)
      |((with_reducible refine Qgl 21 ?_);refine Qla 70 5 wr.heap.size Q05 y4 hKl.out ?_)
      |(go_at_call 92;(with_reducible refine (Ihx.out _ bb).mono ?_);rintro e w5 ⟨rfl,b5⟩;have bb:=Below.then bb b5))
     go_roundw
     case rel=>exact ⟨k+1,by omega,by rw [HT.out];go_num,by go_num,bb⟩
     case measure=>simp [intOf];omega
    ·obtain rfl:k=kn:=by omega
     have ht:ks.take k=ks:=List.take_of_length_le (by rw [Hkn.out];exact Nat.le_refl _)
     rw [ht]
     go_wp2_with fail
     go_ret
     exact ⟨rfl,bb⟩
theorem Qci:∀ (n:Nat)(t:Nd),SizeOf.sizeOf t≤n→bulkN t≤10000000000→∀ w,IsNd w t→Calls Tryz.prog 92 #[.agg (Q03 t).toArray] w fun e w'=>e=.returned (.int .i64 (szN t:Int))∧Below w.heap.size w w'
 | 0,.mk kd pv p vv v kv ks,h,_,_,_=>by simp at h
 | n+1,.mk kd pv p vv v kv ks,h,hb,w,hI=>by
  obtain ⟨hp,hv,hk,hall⟩:=hI.inv
  obtain ⟨pa,pc,rfl,_,_⟩:=hp.form
  obtain ⟨va,vc,rfl,_,_⟩:=hv.form
  obtain ⟨ka,kc,rfl,_,_⟩:=hk.form
  simp only [bulkN] at hb
  rw [szN]
  exact Qfr kd pa va ka p.length pc v.length vc ks.length kc ks rfl w hk (by have:=szL_le ks;omega) (by have:=Q6u ks;omega) (fun k hk=>(hall k hk).one) (fun k hk u hu=>Qci n k (by
   have:=List.sizeOf_lt_of_mem hk
   simp only [Nd.mk.sizeOf_spec] at h
   omega) (by have:=Q1a hk;omega) u ((hall k hk).kept hu))
theorem bdr {B:Nat}{a w:World}(h:Below B a w)(n:Nat):Below B a (w.drewN n):=h.trans ⟨rfl,rfl,rfl,Nat.le_refl _,fun _ _=>rfl⟩
theorem Q4g (l:List UInt8):∀ x∈Q0d l,x.toNat<16:=by
 intro x hx
 unfold Q0d at hx
 obtain ⟨y,_,hy⟩:=List.mem_flatMap.1 hx
 unfold halfB at hy
 have h256:=y.toNat_lt
 simp only [List.mem_cons,List.not_mem_nil,or_false] at hy
 rcases hy with rfl|rfl
 ·rw [UInt8.toNat_div]
  show y.toNat / 16<16
  omega
 ·rw [UInt8.toNat_mod]
  show y.toNat % 16<16
  omega
theorem OwnOf.neM {α β:Type}{f:α→List Value}{f':β→List Value}{size size':Nat}{e e':TypeId}{w:World}{B B':Nat}{v v':Value}{l:List α}{l':List β}(h:OwnOf f size e w B v l)(h':OwnOf f' size' e' w B' v' l')(hne:e≠e'):∀ k,v'.ownBlock=some k→v.ownBlock≠some k:=by
 intro k hk hk'
 rcases h.2 with ⟨rfl,_⟩|⟨g,cap,cur,rfl,_,hg,_⟩
 ·simp [Value.ownBlock] at hk'
 ·rcases h'.2 with ⟨rfl,_⟩|⟨g',cap',cur',rfl,_,hg',_⟩
  ·simp [Value.ownBlock] at hk
  ·simp only [Value.ownBlock,Option.some.injEq] at hk hk'
   subst hk hk'
   rw [hg] at hg'
   simp only [Option.some.injEq,Obj.cells.injEq] at hg'
   exact hne hg'.2.1
structure MkW (w:World)(B:Nat)(va:Value)(all:List (Value × List UInt8))(hv0:Value)(H:List UInt8)(t:Nd)(ov:Value)(outs:List (Value × List UInt8))(u:World):Prop where
 hb:Below w.heap.size w u
 z:Blk 70 u w.heap.size (Q03 t)
 ra:RowOf tcell 1 u va all
 ta:∀ q∈all,Bytes u q.1 q.2
 oh:OwnOf b8 1 5 u B hv0 H
 oo:OwnOf tcell 1 25 u B ov outs
 fa:∀ k,va.ownBlock=some k→w.heap.size<k∧k<B
 ft:∀ q∈all,∀ k,q.1.ownBlock=some k→w.heap.size<k∧k<B
 hB:w.heap.size<B∧B≤u.heap.size
section
variable {w:World} {B:Nat} {va:Value} {all:List (Value × List UInt8)} {hv0:Value} {H:List UInt8} {t t':Nd} {ov ov':Value} {outs outs':List (Value × List UInt8)} {u u':World}
theorem MkW.kept (h:MkW w B va all hv0 H t ov outs u)(hb:Below u.heap.size u u'):MkW w B va all hv0 H t ov outs u' :=
 ⟨Below.then h.hb hb,h.z.kept hb,h.ra.kept hb,fun q hq=>(h.ta q hq).kept hb,h.oh.kept hb,h.oo.kept hb,h.fa,h.ft,h.hB.1,Nat.le_trans h.hB.2 hb.size⟩
theorem MkW.grew (h:MkW w B va all hv0 H t ov outs u)(hg:u.grownBy u' ov.ownBlock)(ho:OwnOf tcell 1 25 u' B ov' outs'):MkW w B va all hv0 H t ov' outs' u' :=
 have hB:=h.hB
 ⟨h.hb.grown hg h.hb.size (fun k hk=>by have:=OwnOf.lt h.oo k hk;omega),h.z.grown hg (h.oo.notT h.z (by decide)),RowOf.grownT h.ra hg (fun k hk=>by have:=(h.fa k hk).2;omega) (fun k hk e=>by have h1:=OwnOf.lt h.oo k e;have h2:=(h.fa k hk).2;omega),
  fun q hq=>RowOf.grownT (h.ta q hq) hg (fun k hk=>by have:=(h.ft q hq k hk).2;omega) (fun k hk e=>by have h1:=OwnOf.lt h.oo k e;have h2:=(h.ft q hq k hk).2;omega),h.oh.grown hg (fun k hk=>OwnOf.neM h.oh h.oo (by decide) k hk),ho,h.fa,h.ft,hB.1,Nat.le_trans hB.2 hg.size⟩
theorem MkW.kid (h:MkW w B va all hv0 H t ov outs u){gk:Nat}{cs:List Value}(hg:u.grownBy u' (some gk))(hz:Blk 70 u gk cs)(hgk:B≤gk):MkW w B va all hv0 H t ov outs u' :=
 have hB:=h.hB
 ⟨h.hb.grown hg h.hb.size (fun k hk=>by cases hk;omega),h.z.grown hg (fun e=>by simp only [Option.some.injEq] at e;omega),h.ra.offT hg (fun k hk=>by have:=(h.fa k hk).2;omega),fun q hq=>(h.ta q hq).offT hg (fun k hk=>by have:=(h.ft q hq k hk).2;omega),
  h.oh.grown hg (fun k hk=>by cases hk;exact h.oh.notT hz (by decide)),h.oo.grown hg (fun k hk=>by cases hk;exact h.oo.notT hz (by decide)),h.fa,h.ft,hB.1,Nat.le_trans hB.2 hg.size⟩
theorem MkW.turn (h:MkW w B va all hv0 H t ov outs u)(hg:u.grownBy u' (some w.heap.size))(hz:Blk 70 u' w.heap.size (Q03 t')):MkW w B va all hv0 H t' ov outs u' :=
 have hB:=h.hB
 ⟨h.hb.grown hg h.hb.size (fun k hk=>by cases hk;exact Nat.le_refl _),hz,h.ra.offT hg (fun k hk=>by have:=(h.fa k hk).1;omega),fun q hq=>(h.ta q hq).offT hg (fun k hk=>by have:=(h.ft q hq k hk).1;omega),
  h.oh.grown hg (fun k hk e=>by cases hk;have:=OwnOf.lt h.oh _ e;omega),h.oo.grown hg (fun k hk e=>by cases hk;have:=OwnOf.lt h.oo _ e;omega),h.fa,h.ft,hB.1,Nat.le_trans hB.2 hg.size⟩
end
def KidS (p1 p2:Addr)(v1 v2:Value)(xb xo:Nat)(KC:List Value)(u:World):Prop:=u.cell? p1=some v1∧u.cell? p2=some v2∧u.rangeAt xb xo KC
theorem KidS.grown {p1 p2:Addr}{v1 v2:Value}{xb xo gk:Nat}{KC:List Value}{u u':World}(h:KidS p1 p2 v1 v2 xb xo KC u)(hg:u.grownBy u' (some gk))(h1:p1.block≠gk)(h2:p2.block≠gk)(h3:xb≠gk):KidS p1 p2 v1 v2 xb xo KC u' :=
 ⟨hg.cell h.1 (fun e=>h1 (by simpa using e)),hg.cell h.2.1 (fun e=>h2 (by simpa using e)),fun j v hv=>hg.cell (h.2.2 j v hv) (fun e=>h3 (by simpa using e))⟩
def MkP (E:Int)(A:List (List UInt8))(w:World)(e:Ending)(w':World):Prop:=∃ v ps,e=.returned (.tuple #[v,.int .i64 E])∧RowOf tcell 1 w' v ps∧(∀ q∈ps,Bytes w' q.1 q.2)∧ps.map (·.2)=A∧Below w.heap.size w w'
def mkE (t:Nd)(key:List UInt8):Int:=if rgt 0 t=true then (if key.length≤32 then 0 else 3) else 1
def mkL (t:Nd)(key:List UInt8):List (List UInt8):=if rgt 0 t=true then (if key.length≤32 then dn (bulkN t) t (Q0d key) else []) else []
structure MkS (w:World)(t0:Nd)(H:List UInt8)(hv0:Value)(T:List (List UInt8))(all outs:List (Value × List UInt8))(t:Nd)(i:Nat)(p:List UInt8)(pv:Value)(n d:Nat):Prop where
 hn:bulkN t≤n
 hr:rgt d t=true
 hI:IsNd w t
 hb:bulkN t≤10000000000
 hf:FnN t
 hd:t.kd≠0→∃ l,(whN t0).drop i=alN t++l
 hi:i<(whN t0).length
 hs:SubB hv0 H pv p
 hx:∀ x∈p,x.toNat<16
 hm:∀ q∈outs,q∈all
 ht:outs.map (·.2)++(dn n t p).tail=T
 hl:outs.length+n≤10000000001
theorem MkS.stop {w:World}{t0:Nd}{H:List UInt8}{hv0:Value}{T:List (List UInt8)}{all outs:List (Value × List UInt8)}{kd:Int}{tv:Value}{path:List UInt8}{vv:Value}{vb:List UInt8}{kv:Value}{ks:List Nd}{i:Nat}{p:List UInt8}{pv:Value}{n d:Nat}(h:MkS w t0 H hv0 T all outs (.mk kd tv path vv vb kv ks) i p pv n d)
  (hs:rst kd path p=none∨∃ j q k,rst kd path p=some (j,q)∧ks[j]?=some k∧k.kd=0):outs.map (·.2)=T:=by
 rw [←h.ht]
 have hn:=h.hn
 cases n with
 | zero=>have:=Q2t (.mk kd tv path vv vb kv ks);omega
 | succ n =>
  rcases hs with hs|⟨j,q,k,hs,hk,hk0⟩
  ·rw [dn,hs];simp
  ·rw [dn,hs]
   simp only [hk,hk0,if_true,List.tail_cons,List.append_nil]
theorem MkS.go {w:World}{t0:Nd}{H:List UInt8}{hv0:Value}{T:List (List UInt8)}{all outs:List (Value × List UInt8)}{kd:Int}{tv:Value}{path:List UInt8}{vv:Value}{vb:List UInt8}{kv:Value}{ks:List Nd}{i:Nat}{p:List UInt8}{pv:Value}{n d:Nat}(h:MkS w t0 H hv0 T all outs (.mk kd tv path vv vb kv ks) i p pv n d)
  {j:Nat} {q:List UInt8} {k:Nd} {qv:Value}(hs:rst kd path p=some (j,q)) (hk:ks[j]?=some k) (hk0:k.kd≠0) (hq:SubB pv p qv q) (hW:all.map (·.2)=whN t0):∃ x d',all[i+1+szL (ks.take j)]?=some x∧MkS w t0 H hv0 T all (outs++[x]) k (i+1+szL (ks.take j)) q qv (n - 1) d'∧n - 1+1=n:=by
 have hn:=h.hn
 have hmem:k∈ks:=List.mem_of_getElem? hk
 have hbk:=Q1a hmem
 obtain ⟨k',d',hk',hr',_⟩:=Q4r h.hr hs h.hx
 rw [hk] at hk'
 simp only [Option.some.injEq] at hk'
 subst hk'
 simp only [bulkN] at hn
 obtain ⟨m,rfl⟩:∃ m,n=m+1:=⟨n - 1,by omega⟩
 have hkd:kd≠0∧kd≠1:=by
  unfold rst at hs
  split at hs
  ·rename_i e;subst e;decide
  ·split at hs
   ·rename_i e;subst e;decide
   ·cases hs
 obtain ⟨l,hl⟩:=h.hd hkd.1
 obtain ⟨l2,hl2⟩:=alL_at ks j k hk hk0
 have hd2:(whN t0).drop (i+1+szL (ks.take j))=alN k++(l2++l):=by
  rw [show i+1+szL (ks.take j)=i+(1+szL (ks.take j)) from by omega,←List.drop_drop,hl,alN,if_neg hkd.2,List.cons_append,Nat.add_comm 1,List.drop_succ_cons,List.drop_append,hl2]
  have h1:szL (ks.take j)≤(alL ks).length:=by rw [alL_sz];exact Q83 ks j
  rw [Nat.sub_eq_zero_of_le h1,List.drop_zero,List.append_assoc]
 obtain ⟨l3,hl3⟩:=alN_ne k
 have hlt:i+1+szL (ks.take j)<(whN t0).length:=by
  have:=congrArg List.length hd2
  rw [List.length_drop,hl3] at this
  simp at this;omega
 have hal:i+1+szL (ks.take j)<all.length:=by rw [←hW,List.length_map] at hlt;exact hlt
 obtain ⟨x,hx⟩:∃ x,all[i+1+szL (ks.take j)]?=some x:=⟨_,List.getElem?_eq_getElem hal⟩
 have hx2:x.2=cdN k:=by
  have h1:(whN t0)[i+1+szL (ks.take j)]?=some x.2:=by rw [←hW,List.getElem?_map,hx];rfl
  have h2:((whN t0).drop (i+1+szL (ks.take j)))[0]?=some x.2:=by rw [List.getElem?_drop,Nat.add_zero];exact h1
  rw [hd2,hl3] at h2
  simpa using h2.symm
 refine ⟨x,d',hx,⟨by omega,hr',?_,by have:=h.hb;simp only [bulkN] at this;omega,h.hf.inv.2.2.2 k hmem,fun _=>⟨_,hd2⟩,hlt,h.hs.trans hq,(Q48 hs h.hx).1,fun y hy=>?_,?_,by have:=h.hl;simp only [List.length_append,List.length_singleton];omega⟩,by omega⟩
 ·exact h.hI.inv.2.2.2 k hmem
 ·rcases List.mem_append.1 hy with hy|hy
  ·exact h.hm y hy
  ·rw [List.mem_singleton] at hy;rw [hy];exact List.mem_of_getElem? hx
 ·have ht:=h.ht
  rw [dn,hs] at ht
  simp only [hk,List.tail_cons] at ht
  rw [if_neg hk0] at ht
  rw [←ht,List.map_append,List.append_assoc]
  congr 1
  rw [show m+1 - 1=m from rfl,List.map_singleton,hx2,←hdN_kd hk0]
  obtain ⟨kd',a1,a2,a3,a4,a5,a6⟩:=k
  cases m with
  | zero=>rw [dn];rfl
  | succ m=>rw [dn];rfl
end Go.Proofs.YtbdmkfjgnjfjbaaGreat
