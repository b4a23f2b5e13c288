/- Trees built of keys and values: how great they are; the root of what grows. Plain Lean. | Numbers and bytes as cells; what a key's cells read as; how arrays and -/
import Derived.Test.YtbdmkfjgnjfjbaaGreatLazyServesK18
import Derived.Test.YtbdmkfjgnjfjbaaGreatLazyServesK29
import Derived.Test.YtbdmkfjgnjfjbaaGreatLazyServesK01
import Derived.Test.YtbdmkfjgnjfjbaaGreatLazyServesK04
import Derived.MapViews
import Derived.DeepKeys2
import Derived.Test.YtbdmkfjgnjfjbaaGreatLazyServesK21
import Derived.Test.YtbdmkfjgnjfjbaaGreatLazyServesK22
import Derived.Recover
import Derived.Test.YtbdmkfjgnjfjbaaGreatLazyServesK20
set_option linter.unusedSimpArgs false
set_option linter.unusedVariables false
set_option maxHeartbeats 4000000
set_option maxRecDepth 100000
namespace Go.Proofs.YtbdmkfjgnjfjbaaGreat
open Go.RowKit
mutual
def cnP:Pn→Nat
 | .mk kd _ v ks=>if kd=0 then 0 else if kd=1 then 1 else if kd=2 then cnPL ks else (if v=[] then 0 else 1)+cnPL ks
def cnPL:List Pn→Nat
 | []=>0
 | k::ks=>cnP k+cnPL ks
end
mutual
theorem rts_cn:∀ {t:Nd}{l:List Rt},rts t=some l→l.length≤cnP (erN t)
 | .mk kd pv p vv v kv ks,l,h=>by
  unfold rts at h
  simp only [erN,cnP]
  split at h
  ·simp at h
  ·by_cases h0:kd=0
   ·rw [if_pos h0] at h
    simp only [Option.some.injEq] at h;subst h;simp
   ·rw [if_neg h0] at h ⊢
    by_cases h1:kd=1
    ·rw [if_pos h1] at h ⊢
     simp only [Option.some.injEq] at h;subst h;simp
    ·rw [if_neg h1] at h ⊢
     split at h
     ·rename_i h2
      rw [if_pos h2.1]
      cases hls:rtsL ks with
      | none=>rw [hls] at h;simp at h
      | some ls =>
       rw [hls] at h
       simp only [Option.map_some,Option.some.injEq] at h
       subst h
       have:=Qaw hls
       rw [Q1h,List.length_flatten]
       exact this
     ·split at h
      ·rename_i h3
       rw [if_neg (by omega)]
       cases hls:rtsL ks with
       | none=>rw [hls] at h;simp at h
       | some ls =>
        rw [hls] at h
        simp only [Option.map_some,Option.some.injEq] at h
        subst h
        have:=Qaw hls
        rw [List.length_append,Q92]
        have:(if v=[] then ([]:List Rt) else [([],v)]).length≤if v=[] then 0 else 1:=by split<;>simp
        omega
      ·cases h
theorem Qaw:∀ {ks:List Nd}{ls:List (List Rt)},rtsL ks=some ls→(ls.map List.length).sum≤cnPL (erNL ks)
 | [],ls,h=>by
  unfold rtsL at h
  simp only [Option.some.injEq] at h;subst h;simp
 | k::ks,ls,h=>by
  unfold rtsL at h
  simp only [erNL,cnPL]
  cases h1:rts k with
  | none=>rw [h1] at h;cases h
  | some l =>
   rw [h1] at h
   dsimp only at h
   cases h2:rtsL ks with
   | none=>rw [h2] at h;cases h
   | some ls' =>
    rw [h2] at h
    simp only [Option.some.injEq] at h;subst h
    have a1:=rts_cn h1
    have a2:=Qaw h2
    simp only [List.map_cons,List.sum_cons]
    omega
end
theorem Qdk:∀ (ls:List (List Rt))(ks:List Pn)(i:Nat),ls.length=ks.length→(∀ (i:Nat) (l:List Rt) (k:Pn),ls[i]?=some l→ks[i]?=some k→cnP k≤l.length)→cnPL ks≤(cat i ls).length
 | [],[],i,_,_=>by simp [cnPL]
 | [],k::ks,i,h,_=>by simp at h
 | l::ls,[],i,h,_=>by simp at h
 | l::ls,k::ks,i,h,hh=>by
  have h0:=hh 0 l k rfl rfl
  have ih:=Qdk ls ks (i+1) (by simpa using h) (fun j l' k' h1 h2=>hh (j+1) l' k' (by simpa using h1) (by simpa using h2))
  simp only [cat,cnPL,List.length_append,Q1h]
  omega
theorem Qka {l:List Rt}{T:Pn}(h:Grows l T):cnP T≤l.length:=by
 induction h with
 | none=>simp [nP,cnP]
 | leaf p v hv hp=>simp [cnP]
 | road p l k hp hn h hk ih =>
  have h1:cnP (.mk 2 p [] [k])=cnP k:=by simp [cnP,cnPL]
  rw [h1,Q1h]
  exact ih
 | fork v ls ks hl hk h hm ih =>
  have h1:=Qdk ls ks 0 (by omega) ih
  have h2:cnP (.mk 3 [] v ks)=(if v=[] then 0 else 1)+cnPL ks:=by simp [cnP]
  rw [h2]
  unfold bdP
  rw [List.length_append]
  have:(if v=[] then 0 else 1)≤(if v=[] then ([]:List Rt) else [([],v)]).length:=by split<;>simp
  omega
inductive FnP:Pn→Prop where
 | mk (kd:Int) (p v:List UInt8) (ks:List Pn) (hp:p.length≤1048576) (hv:v.length≤1048576) (hk:ks.length≤1048576) (h:∀ k∈ks,FnP k):FnP (.mk kd p v ks)
theorem fn_of:∀ (n:Nat)(t:Nd),SizeOf.sizeOf t≤n→FnP (erN t)→FnN t
 | 0,.mk kd pv p vv v kv ks,h,_=>by simp at h
 | n+1,.mk kd pv p vv v kv ks,h,hf=>by
  simp only [erN,Q1y] at hf
  cases hf with
  | mk _ _ _ _ hp hv hk hh =>
   rw [List.length_map] at hk
   exact .mk _ _ _ _ _ _ _ hp hv hk (fun k hk=>fn_of n k (by
    have:=List.sizeOf_lt_of_mem hk
    simp only [Nd.mk.sizeOf_spec] at h
    omega) (hh _ (List.mem_map.2 ⟨k,hk,rfl⟩)))
theorem Qk9 {l:List Rt}{T:Pn}(h:Grows l T):(∀ r∈l,r.1.length≤64∧r.2.length≤1024)→FnP T:=by
 induction h with
 | none=>intro _;exact .mk _ _ _ _ (by simp) (by simp) (by simp) (by simp)
 | leaf p v hv hp =>
  intro hb
  have:=hb (p,v) (List.mem_singleton.2 rfl)
  exact .mk _ _ _ _ (by have:=this.1;dsimp only at this;omega) (by have:=this.2;dsimp only at this;omega) (by simp) (by simp)
 | road p l k hp hn h hk ih =>
  intro hb
  have hb2:∀ r∈l,p.length+r.1.length≤64∧r.2.length≤1024:=fun r hr=>by
   have:=hb (p++r.1,r.2) (List.mem_map.2 ⟨r,hr,rfl⟩)
   rw [List.length_append] at this
   exact this
  obtain ⟨r,hr⟩:=List.exists_mem_of_ne_nil _ (h.ne (by omega))
  have h1:=(hb2 r hr).1
  refine .mk _ _ _ _ (by omega) (by simp) (by simp) (fun k' hk'=>?_)
  rw [List.mem_singleton] at hk'
  subst hk'
  exact ih (fun r hr=>by have:=hb2 r hr;omega)
 | fork v ls ks hl hk h hm ih =>
  intro hb
  refine .mk _ _ _ _ (by simp) ?_ (by omega) (fun k' hk'=>?_)
  ·by_cases h0:v=[]
   ·subst h0;simp
   ·have:=(hb ([],v) (List.mem_append_left _ (by rw [if_neg h0];exact List.mem_singleton.2 rfl))).2
    dsimp only at this;omega
  ·obtain ⟨i,hi,rfl⟩:=List.mem_iff_getElem.1 hk'
   have hi2:i<ls.length:=by omega
   refine ih i ls[i] ks[i] (List.getElem?_eq_getElem hi2) (List.getElem?_eq_getElem hi) (fun r hr=>?_)
   have:=hb _ (List.mem_append_right _ (Q2y (i:=0) (List.getElem?_eq_getElem hi2) hr))
   simp only [List.length_cons] at this
   omega
theorem Qac {l:List Rt}{T:Pn}(h:Grows l T)(hb:∀ r∈l,r.1.length≤64∧r.2.length≤1024)(hl:l.length≤1048576){t:Nd}(ht:erN t=T):BgN t:=by
 subst ht
 refine ⟨fn_of _ t (Nat.le_refl _) (Qk9 h hb),?_,fun l' hl'=>?_⟩
 ·have h1:=Qhw h
  have h2:=wtR_le hb
  rw [←Q95];omega
 ·have h1:=rts_cn hl'
  have h2:=Qka h
  omega
abbrev Kvl:=List (List UInt8 × List UInt8)
def kvo (p:Kvp):List UInt8 × List UInt8:=(p.k,p.v)
def ofKV (q:List UInt8 × List UInt8):Kvp:=⟨.slice none 0 0,q.1,.slice none 0 0,q.2⟩
def bldQ (qs:Kvl):Pn × Int:=bldP (qs.map ofKV)
theorem bldE_Q:∀ ps:List Kvp,bldE ps=bldE ((ps.map kvo).map ofKV)
 | []=>rfl
 | p::ps=>by
  have:=bldE_Q ps
  simp only [List.map_cons,bldE,kvo,ofKV]
  rw [this]
theorem trB_Q (ps:List Kvp):trB ps=trB ((ps.map kvo).map ofKV):=by
 unfold trB
 rw [List.foldl_map,List.foldl_map];rfl
theorem bldP_Q (ps:List Kvp):bldP ps=bldQ (ps.map kvo):=by
 unfold bldQ bldP
 rw [←bldE_Q,←trB_Q]
theorem fine_Q {ps:List Kvp}(h:bldE ps=0):∀ p∈ps,fineK p:=by
 induction ps with
 | nil=>intro p hp;simp at hp
 | cons q ps ih =>
  intro p hp
  unfold bldE at h
  split at h
  ·omega
  ·split at h
   ·omega
   ·rcases List.mem_cons.1 hp with rfl|hp
    ·exact ⟨by omega,by omega⟩
    ·exact ih h p hp
theorem Q5m (qs:Kvl)(hn:qs.length≤1048576){t:Nd}(ht:erN t=(bldQ qs).1):BgN t:=by
 unfold bldQ bldP at ht
 split at ht
 ·rename_i h0
  obtain ⟨h1,_,h3,h4⟩:=Q42 (qs.map ofKV) (fine_Q h0)
  rw [List.length_map] at h4
  exact Qac h1 h3 (by omega) ht
 ·exact Qac .none (by simp) (by simp) ht
mutual
theorem rgt_er:∀ (d:Nat)(t s:Nd),erN t=erN s→rgt d t=rgt d s
 | d,.mk kd pv p vv v kv ks,.mk kd' pv' p' vv' v' kv' ks',h=>by
  simp only [erN,Pn.mk.injEq] at h
  obtain ⟨rfl,rfl,rfl,h4⟩:=h
  have hl:ks.length=ks'.length:=by have:=congrArg List.length h4;simpa [Q1y] using this
  have h1:=Qb5 (d+p.length) ks ks' h4
  have h2:=Qb5 (d+1) ks ks' h4
  have h3:=Qh5 ks ks' h4
  have h5:(ks[0]?.map Nd.kd).getD 0=(ks'[0]?.map Nd.kd).getD 0:=by
   cases ks with
   | nil=>cases ks' with
    | nil=>rfl
    | cons=>simp at hl
   | cons a ks=>cases ks' with
    | nil=>simp at hl
    | cons b ks' =>
     simp only [erNL,List.cons.injEq] at h4
     have:=h4.1
     obtain ⟨⟩:=a;obtain ⟨⟩:=b
     simp only [erN,Pn.mk.injEq] at this
     simp [Nd.kd,this.1]
  unfold rgt
  rw [h1,h2,h3,h5,hl]
theorem Qb5:∀ (d:Nat)(ks ks':List Nd),erNL ks=erNL ks'→rgtL d ks=rgtL d ks'
 | d,[],[],_=>rfl
 | d,[],_::_,h=>by simp [erNL] at h
 | d,_::_,[],h=>by simp [erNL] at h
 | d,k::ks,k'::ks',h=>by
  simp only [erNL,List.cons.injEq] at h
  simp only [rgtL,rgt_er d k k' h.1,Qb5 d ks ks' h.2]
theorem Qh5:∀ (ks ks':List Nd),erNL ks=erNL ks'→manyP ks=manyP ks'
 | [],[],_=>rfl
 | [],_::_,h=>by simp [erNL] at h
 | _::_,[],h=>by simp [erNL] at h
 | .mk kd pv p vv v kv ls::ks,.mk kd' pv' p' vv' v' kv' ls'::ks',h=>by
  simp only [erNL,erN,List.cons.injEq,Pn.mk.injEq] at h
  obtain ⟨⟨rfl,_⟩,h2⟩:=h
  simp only [manyP,Nd.kd,Qh5 ks ks' h2]
  rfl
end
mutual
theorem cdN_er:∀ (t s:Nd),erN t=erN s→cdN t=cdN s
 | .mk kd pv p vv v kv ks,.mk kd' pv' p' vv' v' kv' ks',h=>by
  simp only [erN,Pn.mk.injEq] at h
  obtain ⟨rfl,rfl,rfl,h4⟩:=h
  simp only [cdN,smN_er ks ks' h4]
theorem smN_er:∀ (ks ks':List Nd),erNL ks=erNL ks'→smN ks=smN ks'
 | [],[],_=>rfl
 | [],_::_,h=>by simp [erNL] at h
 | _::_,[],h=>by simp [erNL] at h
 | k::ks,k'::ks',h=>by
  simp only [erNL,List.cons.injEq] at h
  have hk:k.kd=k'.kd:=by
   obtain ⟨⟩:=k;obtain ⟨⟩:=k'
   have:=h.1
   simp only [erN,Pn.mk.injEq] at this
   exact this.1
  simp only [smN,cdN_er k k' h.1,smN_er ks ks' h.2,hk]
end
theorem rtC_er {t s:Nd}(h:erN t=erN s):rtC t=rtC s:=by
 have hk:t.kd=s.kd:=by
  obtain ⟨⟩:=t;obtain ⟨⟩:=s
  simp only [erN,Pn.mk.injEq] at h
  exact h.1
 have hw:(whN t).headD []=(whN s).headD []:=by
  obtain ⟨l,hl⟩:=alN_ne t
  obtain ⟨m,hm⟩:=alN_ne s
  unfold whN
  rw [hk,hl,hm,cdN_er t s h]
  split<;>rfl
 unfold rtC
 rw [rgt_er 0 t s h,hw]
end Go.Proofs.YtbdmkfjgnjfjbaaGreat
namespace Go.Proofs.YtbdmkfjgnjfjbaaGreat
open Go.ChangeShapes Go.WideShapes Go.ChangeAt Go.RowKit
def u64v (n:Nat):Value:=.int .u64 (n:Int)
def by8 (l:List UInt8):List Value:=l.map u8v
theorem Q0n (l:List UInt8):(by8 l).length=l.length:=by unfold by8;simp
def zeroB (n:Nat):List UInt8:=List.replicate n 0
def lit64 (n:Nat):List Lit:=[Lit.int .u64 (n:Int)]
theorem wf64 {n:Nat}(h:n<18446744073709551616):(Lit.int .u64 (n:Int)).wf=true:=by
 simp only [Lit.wf,show IntKind.u64.min=0 from rfl,show IntKind.u64.max=18446744073709551615 from rfl,Bool.and_eq_true,decide_eq_true_eq]
 omega
theorem keyL64 (d:Nat){n:Nat}(h:n<18446744073709551616):Tryz.prog.keyLits (d+1) 22 [u64v n]=some (lit64 n):=by
 unfold Program.keyLits
 simp only [show Tryz.prog.underlying 22=some (.int .u64) from Tryz.underlying22,u64v,wf64 h,and_self,if_true,lit64]
theorem piece {α:Type}(cs:List α)(n m:Nat):cs.drop n=(cs.drop n).take m++cs.drop (n+m):=by
 rw [←List.drop_drop,List.take_append_drop]
theorem Qiw (xs:List Int)(hw:∀ x∈xs,(Lit.int .u8 x).wf=true):∃ F:List UInt8,F.length=xs.length∧xs.map (Value.int .u8)=by8 F:=by
 refine ⟨xs.map fun x=>UInt8.ofNat x.toNat,by simp,?_⟩
 unfold by8
 rw [List.map_map]
 refine List.map_congr_left fun x hx=>?_
 have:=hw x hx
 simp only [Lit.wf,show IntKind.u8.min=0 from rfl,show IntKind.u8.max=255 from rfl,Bool.and_eq_true,decide_eq_true_eq] at this
 simp only [Function.comp_apply,u8v,UInt8.toNat_ofNat']
 congr 1
 omega
section
variable {H:Type} {enc:TypeId × Value→H} {W:World}
theorem Qjr {n:Nat}{cs:List Value}{x:DataW H × List MemPlace}{t:TypeId}{N:Nat}(ht:Tryz.prog.underlying t=some (.array N 5))(hc:Tryz.prog.cellsOf t=N)(h:DataW.trod enc Tryz.prog W 0 (fun _=>true) true n t cs=some x):∃ F:List UInt8,F.length=N∧cs=by8 F:=by
 obtain ⟨xs,h1,h2,h3⟩:=Q80 ht Tryz.underlying5 (by kernel_rfl) hc h
 obtain ⟨F,h4,h5⟩:=Qiw xs h3
 exact ⟨F,by omega,h1.trans h5⟩
end
end Go.Proofs.YtbdmkfjgnjfjbaaGreat
namespace Go.Proofs.YtbdmkfjgnjfjbaaGreat
open Go.RowKit
inductive Pit where
 | txt (t:List UInt8)
 | lst (ks:List Pit)
def erI:Itm→Pit
 | .mk l _ t _ ks=>if l=true then .lst (ks.attach.map fun ⟨k,_⟩=>erI k) else .txt t
theorem erI_mk (l:Bool)(tv:Value)(t:List UInt8)(kv:Value)(ks:List Itm):erI (.mk l tv t kv ks)=if l=true then .lst (ks.map erI) else .txt t:=by
 rw [erI]
 simp
def hdr (c base:Nat)(r:List UInt8):Option (Nat × List UInt8) :=
 if c<base+48 then some (c - base,r)
 else if r.length<c - base - 48+1 then none
 else if (r.take (c - base - 48+1)).head?=some 0∨8<c - base - 48+1 then none
 else if numL (r.take (c - base - 48+1))<48 then none
 else some (numL (r.take (c - base - 48+1)),r.drop (c - base - 48+1))
def Fp (S:Nat→Prop)(w:World)(it:Itm):Prop:=∀ u:World,(∀ b,S b→b<w.heap.size→u.heap[b]?=w.heap[b]?)→IsItm u it
theorem OwnOf.onto {α:Type}{f:α→List Value}{size:Nat}{e:TypeId}{w u:World}{B:Nat}{v:Value}{l:List α}(h:OwnOf f size e w B v l)(hu:∀ b,v.ownBlock=some b→b<w.heap.size→u.heap[b]?=w.heap[b]?):OwnOf f size e u B v l:=by
 refine ⟨h.1,?_⟩
 rcases h.2 with h2|⟨g,cap,cur,rfl,h3,h4,h5⟩
 ·exact .inl h2
 ·refine .inr ⟨g,cap,cur,rfl,h3,?_,h5⟩
  rw [hu g rfl (Array.getElem?_eq_some_iff.1 h4).1];exact h4
theorem Fp.txt {S:Nat→Prop}{w:World}{B:Nat}{v:Value}{t:List UInt8}(h:OwnOf b8 1 5 w B v t)(hS:∀ b,B≤b→S b):Fp S w (.mk false v t (.slice none 0 0) []):=by
 intro u hu
 refine .mk false v t _ [] (h.onto (fun b h1 h2=>hu b (hS b (h.lt b h1)) h2)).row (RowOf.nil icells 3 u) (by simp)
theorem Fp.lst {S:Nat→Prop}{w:World}{B:Nat}{kv:Value}{ks:List Itm}(h:OwnOf icells 3 77 w B kv ks)(hk:∀ k∈ks,Fp S w k)(hS:∀ b,B≤b→S b):Fp S w (.mk true (.slice none 0 0) [] kv ks):=by
 intro u hu
 exact .mk true _ [] kv ks (RowOf.nil b8 1 u) (h.onto (fun b h1 h2=>hu b (hS b (h.lt b h1)) h2)).row (fun k hk'=>hk k hk' u hu)
def SubB (v:Value)(b:List UInt8)(v':Value)(b':List UInt8):Prop:=∀ u:World,Bytes u v b→Bytes u v' b'
theorem SubB.refl (v:Value)(b:List UInt8):SubB v b v b:=fun _ h=>h
theorem SubB.trans {v1 v2 v3:Value}{b1 b2 b3:List UInt8}(h:SubB v1 b1 v2 b2)(k:SubB v2 b2 v3 b3):SubB v1 b1 v3 b3:=fun u hu=>k u (h u hu)
theorem Qch {a:Option Addr}{c:Nat}{l:List UInt8}{w:World}(h:Bytes w (.slice a l.length c) l)(lo:Nat)(h1:lo≤l.length)(x:Int)(hx:x=lo) :
  ∃ a' c',(∀ k w',(Instr.slice 25 (.slice a l.length c) (some (.int k x)) none none).run Tryz.prog w'=.ok (.slice a' (l.length - lo) c') w')∧SubB (.slice a l.length c) l (.slice a' (l.length - lo) c') (l.drop lo):=by
 obtain ⟨a',c',h2,_⟩:=RowOf.from elU8 h lo h1 x hx
 refine ⟨a',c',h2,fun u hu=>?_⟩
 obtain ⟨a2,c2,h3,h4⟩:=RowOf.from elU8 hu lo h1 x hx
 have:=(h2 .i64 u).symm.trans (h3 .i64 u)
 simp only [Result.ok.injEq,Value.slice.injEq] at this
 obtain ⟨⟨rfl,_,rfl⟩,_⟩:=this
 exact h4
def Any (_:World):Prop:=True
mutual
def encP:Pit→List UInt8
 | .txt t=>textB t
 | .lst ks=>headB 192 (encPL ks).length++encPL ks
def encPL:List Pit→List UInt8
 | []=>[]
 | k::ks=>encP k++encPL ks
end
theorem Qlr:∀ (it:Itm),encI it=encP (erI it):=by
 intro it
 induction it using Itm.rec (motive_2:=fun ks=>encL ks=encPL (ks.map erI)) with
 | mk l tv t kv ks ih =>
  rw [erI_mk,encI]
  cases l with
  | false=>simp [encP]
  | true=>simp [encP,ih]
 | nil=>simp [encL,encPL]
 | cons k ks h1 h2=>rw [List.map_cons,encL,encPL,h1,h2]
theorem Q8u (base n:Nat):headB base n≠[]:=by unfold headB;split <;> simp
section
variable {w:World} {zs:List (TypeId × Nat × List Value)} {g9:Nat} {kv:Value} {ks:List Itm} {u:World}
theorem Q4t {α:Type}{f:α→List Value}{size:Nat}{e:TypeId}{w:World}{B:Nat}{v:Value}{l:List α}(h:OwnOf f size e w B v l){k:Nat}(hk:v.ownBlock=some k):k<w.heap.size:=(World.ownsRow.lt h k hk).2
end
def TxB (B:Nat)(t:List UInt8):Ty:=fun v w=>Bytes w v t∧∀ k,v.ownBlock=some k→B≤k
theorem TxB.mono (B:Nat)(t:List UInt8):Mono (TxB B t):=fun _ _ _ ⟨h1,h2⟩ hb=>⟨RowOf.kept h1 hb,h2⟩
theorem TxB.lower {B B':Nat}{t:List UInt8}{v:Value}{w:World}(h:TxB B t v w)(hB:B'≤B):TxB B' t v w:=⟨h.1,fun k hk=>Nat.le_trans hB (h.2 k hk)⟩
theorem Bytes.onto {w u:World}{v:Value}{t:List UInt8}(h:Bytes w v t)(hu:∀ b,v.ownBlock=some b→b<w.heap.size→u.heap[b]?=w.heap[b]?):Bytes u v t:=by
 obtain ⟨h0,a,c,rfl,h1,h2,h3⟩:=h
 refine ⟨h0,a,c,rfl,h1,h2,?_⟩
 rcases h3 with h3|⟨b,off,s,rfl,hs,h3⟩
 ·exact .inl h3
 ·refine .inr ⟨b,off,s,rfl,hs,fun j x hx=>?_⟩
  have hc:=h3 j x hx
  rw [←hc]
  exact World.cell?_of_block (w:=w) (hu b rfl (World.block_lt_of_cell? w _ hc))
theorem Qil (p:Addr)(k:Nat):(p.add k).block=p.block:=by unfold Addr.add;split <;> rfl
theorem Qad {a:Option Addr}{n c:Nat}{l:List UInt8}{w:World}(h:Bytes w (.slice a n c) l)(lo:Nat)(h1:lo≤n)(x:Int)(hx:x=lo) :
  ∃ a' c',(∀ k w',(Instr.slice 25 (.slice a n c) (some (.int k x)) none none).run Tryz.prog w'=.ok (.slice a' (n - lo) c') w')∧Bytes w (.slice a' (n - lo) c') (l.drop lo)∧∀ k,(Value.slice a' (n - lo) c').ownBlock=some k→(Value.slice a n c).ownBlock=some k:=by
 subst hx
 obtain ⟨hn,hnc,hcm⟩:=h.fits
 obtain ⟨a',c',h2,h3⟩:=h.part elU8.hf elU8.hsz lo n h1 (Nat.le_refl _)
 obtain ⟨i,hi,_,hsi,_⟩:=elU8.info
 have hel:Tryz.prog.elem 25=5:=by unfold Program.elem;rw [elU8.ht]
 refine ⟨a',c',fun k w'=>?_,by subst hn;simpa using h3,fun k hk=>?_⟩
 ·rw [run_slice_l (P:=Tryz.prog) w' (t:=25) (a:=a) (len:=n) (cap:=c) (by rw [hel];exact elU8.ht) k (lo:Int) (by omega) (by omega)]
  rw [hel]
  simp [sizeOf,typeInfo,hi,hsi,←h2]
 ·unfold sliced at h2
  simp only [Value.slice.injEq] at h2
  rw [←h2.1] at hk
  cases a with
  | none=>simp [Value.ownBlock] at hk
  | some p =>
   by_cases hc:c=lo
   ·rw [if_pos hc] at hk;exact hk
   ·rw [if_neg hc] at hk
    simp only [Option.map_some,Value.ownBlock,Qil] at hk
    exact hk
theorem Qgg (N:Nat)(w:World) :
  Calls Tryz.prog 53 #[wv N] w fun e w'=>∃ v,e=.returned v∧TxB w.heap.size (numB N) v w'∧Below w.heap.size w w':=by
 have hb0:=boxW w N
 have hbel0:Below w.heap.size w (w.alloc (.cells (wcs N).toArray 24)):=Qba _ _
 show Calls Tryz.prog 53 #[.agg (wcs N).toArray] w _
 go_enter Tryz.func53,Tryz.ntmps53
 go_wp2_with (first
  |(refine Q14 rfl 24 (.tmp 1) rfl w.heap.size rfl Q0f hb0 (Q0u _) ?_)
  |(go_at_call 66;refine (Q1s N _).mono ?_;rintro e w2 ⟨v,rfl,hv,b2⟩;obtain ⟨a,c,rfl,_⟩:=hv.form' 32 (wb_len N)))
 have hbel2:=hbel0.trans (b2.mono hbel0.size)
 have hr:Bytes w2 (.slice a 32 c) (wb N):=hv.row
 have hfr:∀ k,(Value.slice a 32 c).ownBlock=some k→w.heap.size≤k:=fun k hk=>by have:=hv.lt k hk;simp at this;omega
 have Hfr:=Qhd hfr
 clear hbel0 b2 hv hb0 hfr
 go_loop [4,5,10] (fun _ _ i=>∃ k:Nat,k≤32∧i=.int .i64 (k:Int)∧numB N=bare ((wb N).drop k)) (fun _ _ i=>32 - (intOf i).toNat)
 case atStart=>exact ⟨0,by omega,rfl,rfl⟩
 case round =>
  obtain ⟨k,hk,rfl,hbare⟩:=hrel
  by_cases hlt:k<32
  ·obtain ⟨b,off,rfl,hc⟩:=hr.at k (by rw [wb_len];exact hlt)
   rw [List.drop_eq_getElem_cons (by rw [wb_len];exact hlt)] at hbare
   obtain ⟨x,hx⟩:∃ x,x=(wb N)[k]'(by rw [wb_len];exact hlt):=⟨_,rfl⟩
   rw [←hx] at hc hbare
   have hki:(k:Int)<32:=by omega
   by_cases h0:x=0
   ·subst h0
    rw [Q24] at hbare
    have Hb:=Qhd hbare
    clear hbare hx
    go_wp2
    go_round
    case rel=>exact ⟨k+1,by omega,by go_num,Hb.out⟩
    case measure=>simp [intOf];omega
   ·have hxz:=u8_nz' x h0
    rw [Q25 x _ h0,hx,←List.drop_eq_getElem_cons] at hbare
    have Hb:=Qhd hbare
    obtain ⟨a',c',s1,r1,f1⟩:=Qad hr k (by omega) (k:Int) rfl
    obtain ⟨m,hm⟩:∃ m,m=32 - k:=⟨_,rfl⟩
    rw [←hm] at s1 r1 f1
    have hk':k≤32:=by omega
    have F1:=Qhd f1
    clear hbare hx hm f1
    go_wp2
    go_ret
    exact ⟨_,rfl,⟨by rw [Hb.out];exact r1,fun k hk=>Hfr.out k (F1.out k hk)⟩,hbel2⟩
  ·obtain rfl:k=32:=by omega
   rw [List.drop_eq_nil_of_le (by rw [wb_len];omega)] at hbare
   have hb:numB N=[]:=hbare
   have Hb:=Qhd hb
   clear hbare hb
   go_wp2
   go_ret
   exact ⟨_,rfl,⟨by rw [Hb.out];exact RowOf.nil _ _ _,fun k hk=>by simp [Value.ownBlock] at hk⟩,hbel2⟩
def Qko (w:World)(e:Ending)(w':World):Prop:=e=.returned (.bool true)∧Below w.heap.size w w'
mutual
def bulkP:Pit→Nat
 | .txt t=>1+t.length
 | .lst ks=>1+bulkPL ks
def bulkPL:List Pit→Nat
 | []=>0
 | k::ks=>bulkP k+bulkPL ks
end
theorem Fp.nil (S:Nat→Prop)(w:World):Fp S w (.mk false (.slice none 0 0) [] (.slice none 0 0) []):=fun u _=>.mk false _ [] _ [] (RowOf.nil b8 1 u) (RowOf.nil icells 3 u) (by simp)
theorem Q3o {α:Type}(a b c:List α)(n m:Nat)(hn:a.length=n)(hm:b.length=m):((a++(b++c)).drop n).take m=b:=by
 rw [List.drop_left' hn,List.take_left' hm]
theorem Qdg {α:Type}(a b:List α)(n m:Nat)(hn:a.length=n)(hm:b.length=m):((a++b).drop n).take m=b:=by
 rw [List.drop_left' hn,List.take_of_length_le (by omega)]
theorem Qlk (ts:List (List UInt8)):lsB ts=encP (.lst (ts.map .txt)):=by
 have:∀ ts:List (List UInt8),ts.flatMap textB=encPL (ts.map .txt):=by
  intro ts
  induction ts with
  | nil=>rfl
  | cons t ts ih=>rw [List.flatMap_cons,List.map_cons,encPL,ih];rfl
 unfold lsB
 rw [encP,this]
theorem Qfg (t:List UInt8):(textB t).length≤t.length+9∨18446744073709551616≤t.length:=by
 by_cases h64:t.length<18446744073709551616
 ·left
  unfold textB
  split
  ·omega
  ·unfold headB
   rw [List.length_append]
   split
   ·rw [List.length_cons,List.length_nil];omega
   ·have:=numB_8 t.length h64
    rw [List.length_cons];omega
 ·right;omega
theorem Qat {t:List UInt8}(h:t.length≤32):(textB t).length≤41:=by
 rcases Qfg t with h1|h1<;>omega
theorem Q7p:∀ (ts:List (List UInt8)),(∀ t∈ts,t.length≤32)→(ts.flatMap textB).length≤41*ts.length
 | [],_=>by simp
 | t::ts,h=>by
  rw [List.flatMap_cons,List.length_append,List.length_cons]
  have h1:=Qat (h t List.mem_cons_self)
  have h2:=Q7p ts (fun x hx=>h x (List.mem_cons_of_mem _ hx))
  omega
theorem Blk.bytesAt {e:TypeId}{w:World}{g:Nat}{cs:List Value}(hb:Blk e w g cs)(off n:Nat)(t:List UInt8)(ht:(cs.drop off).take n=by8 t)(hl:t.length=n)(hn:n≤maxLen):Bytes w (.slice (some ⟨g,off,none⟩) n n) t:=by
 subst hl
 refine ⟨Q18 (f:=b8) (size:=1) (fun _=>rfl) t,_,_,rfl,Nat.le_refl _,hn,.inr ⟨g,off,none,rfl,.inl rfl,fun j u hu=>?_⟩⟩
 rw [Q13] at hu
 have hj:j<t.length:=by have:=(List.getElem?_eq_some_iff.1 hu).1;simpa using this
 rw [hb.cell]
 have:(by8 t)[j]?=some u:=hu
 rw [←ht,List.getElem?_take_of_lt hj,List.getElem?_drop] at this
 exact this
theorem sl32 (g off:Nat)(w:World):(Instr.sliceAt 30 (.pointer (some ⟨g,off,none⟩)) none none none).run Tryz.prog w=.ok (.slice (some ⟨g,off,none⟩) 32 32) w:=by
 rw [run_sliceAt_array_all w 30 ⟨g,off,none⟩ (by kernel_rfl)]
 have e1:Tryz.prog.arrayLen 30=32:=by kernel_rfl
 have hs:(Tryz.prog.info? (Tryz.prog.elem 30)).map (·.size)=some 1:=by kernel_rfl
 cases hq:Tryz.prog.info? (Tryz.prog.elem 30) with
 | none=>simp [hq] at hs
 | some q =>
  have hs1:q.size=1:=by simpa [hq] using hs
  simp [sizeOf,typeInfo,hq,hs1,e1,slicedAt,Addr.add]
theorem sl8 (g off:Nat)(w:World):(Instr.sliceAt 41 (.pointer (some ⟨g,off,none⟩)) none none none).run Tryz.prog w=.ok (.slice (some ⟨g,off,none⟩) 8 8) w:=by
 rw [run_sliceAt_array_all w 41 ⟨g,off,none⟩ (by kernel_rfl)]
 have e1:Tryz.prog.arrayLen 41=8:=by kernel_rfl
 have hs:(Tryz.prog.info? (Tryz.prog.elem 41)).map (·.size)=some 1:=by kernel_rfl
 cases hq:Tryz.prog.info? (Tryz.prog.elem 41) with
 | none=>simp [hq] at hs
 | some q =>
  have hs1:q.size=1:=by simpa [hq] using hs
  simp [sizeOf,typeInfo,hq,hs1,e1,slicedAt,Addr.add]
theorem Qdw (ps:List (Value × List UInt8))(p:Value × List UInt8):txts (ps++[p])=txts ps++[txt p.1 p.2]:=by unfold txts;rw [List.map_append];rfl
def OneC (v:Value)(t:List UInt8):Ty:=fun u w=>∃ g,u=.slice (some ⟨g,0,none⟩) 1 1∧RowOf icells 3 w u [txt v t]
theorem OneC.mono (v:Value)(t:List UInt8):Mono (OneC v t):=fun _ _ _ ⟨g,h1,h2⟩ hb=>⟨g,h1,RowOf.kept h2 hb⟩
theorem Qfh:∀ p:Value × List UInt8,(tcell p).length=1:=fun _=>rfl
end Go.Proofs.YtbdmkfjgnjfjbaaGreat
namespace Go.Proofs.YtbdmkfjgnjfjbaaGreat
open Go.ChangeShapes Go.WideShapes Go.ChangeAt Go.RowKit
structure Lf where
 n:Nat
 m:Nat
 s:List UInt8
 c:List UInt8
structure Lf.Ok (l:Lf):Prop where
 n:l.n<18446744073709551616
 m:l.m<W256
 s:l.s.length=32
 c:l.c.length=32
def lfcs (l:Lf):List Value:=[u64v l.n]++(wcs l.m++(by8 l.s++by8 l.c))
theorem Q2j {l:Lf}(k:l.Ok):(lfcs l).length=69:=by
 unfold lfcs
 simp only [List.length_append,Q0n,k.s,k.c,Q0u,List.length_cons,List.length_nil]
theorem Q2z (l:Lf):∀ u∈lfcs l,u.oneCell'=true:=by
 intro u hu
 unfold lfcs at hu
 simp only [List.mem_append,List.mem_singleton] at hu
 rcases hu with hu|hu|hu|hu
 ·subst hu;rfl
 ·exact Q38 _ u hu
 ·obtain ⟨x,_,rfl⟩:=List.mem_map.1 hu;rfl
 ·obtain ⟨x,_,rfl⟩:=List.mem_map.1 hu;rfl
section
variable {l:Lf} (k:l.Ok)
include k
omit k in
omit k in
theorem lfcs_m:((lfcs l).drop 1).take 4=wcs l.m:=Q3o [u64v l.n] _ _ 1 4 rfl (Q0u _)
theorem lfcs_s:((lfcs l).drop 5).take 32=by8 l.s:=by
 have:lfcs l=([u64v l.n]++wcs l.m)++(by8 l.s++by8 l.c):=by unfold lfcs;simp only [List.append_assoc]
 rw [this]
 exact Q3o _ _ _ 5 32 (by simp only [List.length_append,Q0u,List.length_cons,List.length_nil]) (by rw [Q0n,k.s])
theorem lfcs_c:((lfcs l).drop 37).take 32=by8 l.c:=by
 have:lfcs l=([u64v l.n]++(wcs l.m++by8 l.s))++by8 l.c:=by unfold lfcs;simp only [List.append_assoc]
 rw [this]
 exact Qdg _ _ 37 32 (by simp only [List.length_append,Q0n,Q0u,k.s,List.length_cons,List.length_nil]) (by rw [Q0n,k.c])
end
def lTs (l:Lf):List (List UInt8):=[numB l.n,numB l.m,l.s,l.c]
def wL (l:Lf):List UInt8:=lsB (lTs l)
theorem Q2r (N:Nat):(numB N).length≤32:=by
 unfold numB
 exact Nat.le_trans (Qkn _) (by have:=wb_len N;omega)
theorem Qhe {l:Lf}(k:l.Ok):∀ t∈lTs l,t.length≤32:=by
 intro t ht
 simp only [lTs,List.mem_cons,List.not_mem_nil,or_false] at ht
 rcases ht with rfl|rfl|rfl|rfl
 ·exact Q2r _
 ·exact Q2r _
 ·rw [k.s];omega
 ·rw [k.c];omega
theorem wL_len {l:Lf}(k:l.Ok):(wL l).length≤200:=by
 have h1:=Q7p (lTs l) (Qhe k)
 have h2:(lTs l).length=4:=rfl
 unfold wL lsB
 rw [List.length_append]
 have h3:(headB 192 ((lTs l).flatMap textB).length).length≤9:=by
  unfold headB
  split
  ·simp
  ·have:=numB_8 ((lTs l).flatMap textB).length (by omega)
   rw [List.length_cons];omega
 omega
def zL:Lf:=⟨0,0,zeroB 32,zeroB 32⟩
theorem zL_ok:zL.Ok:=⟨by decide,by unfold W256;decide,rfl,rfl⟩
theorem aggLf:Agg Tryz.prog 32 69:=⟨_,Tryz.underlying32,rfl,by kernel_rfl⟩
section
variable {H:Type} {enc:TypeId × Value→H} {W:World}
theorem Qiu (A:List Int)(hl:A.length=4)(hw:∀ x∈A,(Lit.int .u64 x).wf=true):∃ N,N<W256∧A=limI N:=by
 match A,hl with
 | [x0,x1,x2,x3],_ =>
  have h0:=bounds_u64 (hw x0 (by simp))
  have h1:=bounds_u64 (hw x1 (by simp))
  have h2:=bounds_u64 (hw x2 (by simp))
  have h3:=bounds_u64 (hw x3 (by simp))
  obtain ⟨y0,rfl⟩:=Int.eq_ofNat_of_zero_le h0.1
  obtain ⟨y1,rfl⟩:=Int.eq_ofNat_of_zero_le h1.1
  obtain ⟨y2,rfl⟩:=Int.eq_ofNat_of_zero_le h2.1
  obtain ⟨y3,rfl⟩:=Int.eq_ofNat_of_zero_le h3.1
  clear hw
  refine ⟨y0+18446744073709551616*y1+340282366920938463463374607431768211456*y2+6277101735386680763835789423207666416102355444464034512896*y3,by unfold W256;omega,?_⟩
  unfold limI
  rw [lim0,lim1,lim2,lim3]
  congr 1
  ·omega
  ·congr 1
   ·omega
   ·congr 1
    ·omega
    ·congr 1;omega
theorem Q2w {fuel:Nat}{cs:List Value}{x:DataW H × List MemPlace}(h:DataW.trod enc Tryz.prog W 0 (fun _=>true) true fuel 24 cs=some x):∃ N,N<W256∧cs=wcs N:=by
 obtain ⟨xs,e1,e2,e3⟩:=Q80 Tryz.underlying24 Tryz.underlying22 (by kernel_rfl) (by kernel_rfl) h
 obtain ⟨N,hN,rfl⟩:=Qiu xs e2 e3
 exact ⟨N,hN,e1⟩
end
end Go.Proofs.YtbdmkfjgnjfjbaaGreat
namespace Go.Proofs.YtbdmkfjgnjfjbaaGreat
open Go.RowKit
def PItm (p:Pit)(m:Nat):Ty:=fun v w=>∃ l a n c a' n' c' t ks,v=.agg #[.bool l,.slice a n c,.slice a' n' c']∧IsItm w (.mk l (.slice a n c) t (.slice a' n' c') ks)∧erI (.mk l (.slice a n c) t (.slice a' n' c') ks)=p∧bulkI (.mk l (.slice a n c) t (.slice a' n' c') ks)≤m
theorem PItm.mono (p:Pit)(m:Nat):Mono (PItm p m):=fun _ _ _ ⟨l,a,n,c,a',n',c',t,ks,h1,h2,h3,h4⟩ hb=>⟨l,a,n,c,a',n',c',t,ks,h1,h2.kept hb,h3,h4⟩
def PRow (ps:List Pit)(m:Nat):Ty:=fun v w=>∃ a n c its,v=.slice a n c∧RowOf icells 3 w v its∧(∀ i∈its,IsItm w i)∧its.map erI=ps∧bulkL its≤m
theorem PRow.mono (ps:List Pit)(m:Nat):Mono (PRow ps m):=fun _ _ _ ⟨a,n,c,its,h1,h2,h3,h4,h5⟩ hb=>⟨a,n,c,its,h1,RowOf.kept h2 hb,fun i hi=>(h3 i hi).kept hb,h4,h5⟩
end Go.Proofs.YtbdmkfjgnjfjbaaGreat
