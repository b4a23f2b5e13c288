/- The reference's IMake. | What a world comes to, what its proofs are: plain Lean. | world.State, the reference's OState. -/
import Derived.Test.YtbdmkfjgnjfjbaaGreatWorldStatesK40
import Derived.Test.YtbdmkfjgnjfjbaaGreatWorldStatesK37
import Derived.Test.YtbdmkfjgnjfjbaaGreatWorldStatesK39
set_option linter.unusedSimpArgs false
set_option linter.unusedVariables false
set_option maxHeartbeats 4000000
set_option maxRecDepth 100000
open List (getElem_cons_succ getElem_cons_zero getElem_toArray length_cons setIfInBounds_toArray set_cons_succ set_cons_zero)
open Nat (le_refl)
namespace Go.Proofs.YtbdmkfjgnjfjbaaGreat
open Go.RowKit
theorem Qhj (t0:Nd)(ka:Option Addr)(kn kc:Nat)(key:List UInt8)(hkn:key.length=kn)(w:World)(hI:IsNd w t0)(hbg:BgN t0)(hk:Bytes w (.slice ka kn kc) key) :
  Calls Tryz.prog 61 #[.agg (Q05 t0).toArray,.slice ka kn kc] w (MkP (mkE t0 key) (mkL t0 key) w):=by
 obtain ⟨w1,hw1⟩:∃ w1,w1=w.alloc (.cells (Q05 t0).toArray 70):=⟨_,rfl⟩
 have z1:Blk 70 w1 w.heap.size (Q05 t0):=by rw [hw1];exact D01 w _ _
 have hbel:Below w.heap.size w w1:=by rw [hw1];exact Qba _ _
 have c1:=Q7k t0 w1 (hI.kept hbel) (by have:=hbg.b;omega) hbg.r
 have hb:=hbg.b
 have hfn:=hbg.f
 clear hbg
 rw [Q7j t0] at c1
 obtain ⟨R,hR⟩:∃ R,R=rgt 0 t0:=⟨_,rfl⟩
 obtain ⟨E,hE⟩:∃ E,E=mkE t0 key:=⟨_,rfl⟩
 obtain ⟨L,hL⟩:∃ L,L=mkL t0 key:=⟨_,rfl⟩
 have cg:=fun (hr:rgt 0 t0=true) u (hu:Below w.heap.size w u) (hl:key.length≤32)=>gd_any (SizeOf.sizeOf t0) t0 (le_refl _) (bulkN t0) 0 (Q0g key) u (hI.kept hu) hfn hb (le_refl _) hb hr (Q6c key) (by rw [Q1g];omega)
 obtain ⟨K,hK⟩:∃ K,K=Q05 t0:=⟨_,rfl⟩
 have hKl:K.length=4:=by rw [hK];exact Q09 t0
 rw [←hE,←hL]
 unfold mkE at hE
 unfold mkL at hL
 rw [hkn] at hE hL
 simp only [←hR,←hK] at c1 z1 hw1 hE hL cg ⊢
 have C1:=Qhd c1
 have Hw1:=Qhd hw1
 have HKl:=Qhd hKl
 have r1:=z1.all0
 cases R with
 | false =>
  obtain rfl:E=1:=by rw [hE];rfl
  have hL':L=[]:=by rw [hL];rfl
  clear hL
  subst hL'
  clear c1 hR hK hKl hw1 hI hb hfn hk hE cg
  go_enter Tryz.func61,Tryz.ntmps61
  go_wp2_with (first
   |((with_reducible show wpList _ _ _ (⟨some 6,_,_,_,_,_⟩::_) _ _);refine Q03 (o:=⟨some 6,_,_,_,_,_⟩) 70 (.tmp 2) (by rfl) w.heap.size 0 (by rfl) Q08 HKl.out (by rw [←Hw1.out];exact r1) (by rfl) ?_)
   |(go_at_call 93;rw [←Hw1.out];(with_reducible refine C1.out.mono ?_);rintro e w2 ⟨rfl,b2⟩;have bb2:=D00 hbel b2))
  go_ret2
  exact ⟨_,[],rfl,RowOf.nil tcell 1 _,fun q hq=>absurd hq (by simp),rfl,bb2⟩
 | true =>
  by_cases h32:kn≤32
  ·obtain rfl:E=0:=by rw [hE];simp [h32]
   have hL':L=dn (bulkN t0) t0 (Q0g key):=by rw [hL];simp [h32]
   have hki:((32:Int)<(kn:Int))=False:=eq_false (by omega)
   obtain ⟨H,hH⟩:∃ H,H=Q0g key:=⟨_,rfl⟩
   have ch:∀ u,Below w.heap.size w u→Calls Tryz.prog 95 #[.slice ka kn kc] u fun e w'=>∃ v,e=.returned v∧OwnOf b8 1 5 w' u.heap.size v H∧Below u.heap.size u w':=fun u hu=>by
    have h2:=hk.below hu
    rw [←hkn] at h2 ⊢
    rw [hH];exact Q3y ka kc key u h2 (by omega)
   have Cg:Hid (∀ u,Below w.heap.size w u→Calls Tryz.prog 94 #[.agg K.toArray,.string ⟨H.toArray⟩] u (GdPost L u)):=Qhd fun u hu=>by rw [hL',hH];exact cg rfl u hu (by omega)
   have Ch:=Qhd ch
   have HzL:Hid (∀ u,Below w1.heap.size w1 u→Blk 70 u w.heap.size K):=Qhd fun u hu=>z1.kept hu
   clear c1 hR hKl hw1 hI hb hfn hk hE hL hL' hH ch hkn h32 hK cg
   go_enter Tryz.func61,Tryz.ntmps61
   go_wp2_with (first
    |((with_reducible show wpList _ _ _ (⟨some 6,_,_,_,_,_⟩::_) _ _);refine Q03 (o:=⟨some 6,_,_,_,_,_⟩) 70 (.tmp 2) (by rfl) w.heap.size 0 (by rfl) Q08 HKl.out (by rw [←Hw1.out];exact r1) (by rfl) ?_)
    |(go_at_call 93;rw [←Hw1.out];(with_reducible refine C1.out.mono ?_);rintro e w2 ⟨rfl,b2⟩;have bb2:=D00 hbel b2))
   refine Q0v ((fun u=>Below w2.heap.size w2 u)) (by kernel_rfl) ?_;intro u0 hu0;simp only [length_cons,List.length_nil,Nat.reduceAdd,List.replicate_succ,List.replicate_zero]
   have hS0:Below w2.heap.size w2 u0:=(by rw [hu0];exact (Below.refl _ _).drew)
   clear hu0
   (refine wpH_takeQ 0 (fun K hK=>?_);simp only [setIfInBounds_toArray,set_cons_zero,set_cons_succ] at hK;refine Qdx (by rfl) 70 (.tmp 2) (by rfl) w.heap.size (by rfl) Q08 (fun u hu=>HzL.out u (D00 b2 hu)) HKl.out (hK _ ?_);clear hK K;try simp only [Act.put,getElem_toArray,getElem_cons_zero,getElem_cons_succ,setIfInBounds_toArray,set_cons_zero,set_cons_succ])
   (refine wpH_takeQ 1 (fun K hK=>?_);simp only [setIfInBounds_toArray,set_cons_zero,set_cons_succ] at hK;go_simp;first|(refine hK _ ?_;clear hK K)|(apply Exists.intro;refine ⟨fun _=>rfl,hK _ ?_⟩;clear hK K))
   (refine Q0h 2 (by rfl) (by kernel_rfl) (fun K hK=>?_);simp only [setIfInBounds_toArray,set_cons_zero,set_cons_succ] at hK;go_simp)
   refine (Ch.out u0 (D00 bb2 hS0)).mono ?_
   rintro e u1 ⟨v14,rfl,o14,b14⟩
   obtain ⟨a14,c14,rfl,_⟩:=o14.form
   have hS1:=D00 hS0 b14
   refine hK _ _ hS1 ?_;clear hK K
   try simp only [Act.put,getElem_toArray,getElem_cons_zero,getElem_cons_succ,setIfInBounds_toArray,set_cons_zero,set_cons_succ]
   have s1:=Q0l (P:=Tryz.prog) (src:=25) (dst:=9) elU8.ht (by kernel_rfl) (by kernel_rfl) o14.row
   (refine Q0h 3 (by rfl) (by kernel_rfl) (fun K hK=>?_);simp only [setIfInBounds_toArray,set_cons_zero,set_cons_succ] at hK;go_simp)
   refine hK _ _ hS1 ?_;clear hK K
   try simp only [Act.put,getElem_toArray,getElem_cons_zero,getElem_cons_succ,setIfInBounds_toArray,set_cons_zero,set_cons_succ]
   clear s1
   (refine Q0h 4 (by rfl) (by kernel_rfl) (fun K hK=>?_);simp only [setIfInBounds_toArray,set_cons_zero,set_cons_succ] at hK;go_simp)
   refine (Cg.out u1 (D00 bb2 hS1)).mono ?_
   rintro e u2 ⟨v16,ps16,rfl,r16,t16,m16,b16⟩
   have hS2:=D00 hS1 b16
   refine hK _ _ hS2 ?_;clear hK K
   try simp only [Act.put,getElem_toArray,getElem_cons_zero,getElem_cons_succ,setIfInBounds_toArray,set_cons_zero,set_cons_succ]
   (refine wpH_takeQ 5 (fun K hK=>?_);simp only [setIfInBounds_toArray,set_cons_zero,set_cons_succ] at hK;go_simp;first|(refine hK _ ?_;clear hK K)|(apply Exists.intro;refine ⟨fun _=>rfl,hK _ ?_⟩;clear hK K));(refine wpH_takeQ 6 (fun K hK=>?_);simp only [setIfInBounds_toArray,set_cons_zero,set_cons_succ] at hK;go_simp;first|(refine hK _ ?_;clear hK K)|(apply Exists.intro;refine ⟨fun _=>rfl,hK _ ?_⟩;clear hK K))
   refine Q17 (by kernel_rfl) ?_
   go_wp2_with fail
   go_ret2
   exact ⟨v16,ps16,rfl,r16,fun x hx=>(t16 x hx).1,m16,D00 bb2 hS2⟩
  ·obtain rfl:E=3:=by rw [hE];simp [h32]
   have hL':L=[]:=by rw [hL];simp [h32]
   have hki:(32:Int)<(kn:Int):=by omega
   clear hL
   subst hL'
   clear c1 hR hK hKl hw1 hI hb hfn hk hE cg
   go_enter Tryz.func61,Tryz.ntmps61
   go_wp2_with (first
    |((with_reducible show wpList _ _ _ (⟨some 6,_,_,_,_,_⟩::_) _ _);refine Q03 (o:=⟨some 6,_,_,_,_,_⟩) 70 (.tmp 2) (by rfl) w.heap.size 0 (by rfl) Q08 HKl.out (by rw [←Hw1.out];exact r1) (by rfl) ?_)
    |(go_at_call 93;rw [←Hw1.out];(with_reducible refine C1.out.mono ?_);rintro e w2 ⟨rfl,b2⟩;have bb2:=D00 hbel b2))
   go_ret2
   exact ⟨_,[],rfl,RowOf.nil tcell 1 _,fun q hq=>absurd hq (by simp),rfl,bb2⟩
theorem kd_er {t s:Nd}(h:erN t=erN s):t.kd=s.kd:=by
 obtain ⟨⟩:=t;obtain ⟨⟩:=s
 simp only [erN,Pn.mk.injEq] at h
 exact h.1
theorem hdN_er {t s:Nd}(h:erN t=erN s):hdN t=hdN s:=by
 have hk:=kd_er h
 obtain ⟨l,hl⟩:=alN_ne t
 obtain ⟨m,hm⟩:=alN_ne s
 unfold hdN whN
 rw [hk,hl,hm,cdN_er t s h]
 split<;>rfl
theorem dn_er:∀ (n:Nat)(t s:Nd)(p:List UInt8),erN t=erN s→dn n t p=dn n s p
 | 0,t,s,p,h=>by rw [dn,dn,hdN_er h]
 | n+1,.mk kd pv path vv v kv ks,.mk kd' pv' path' vv' v' kv' ks',p,h=>by
  have hh:=hdN_er h
  simp only [erN,Pn.mk.injEq] at h
  obtain ⟨rfl,rfl,rfl,h4⟩:=h
  have hm:ks.map erN=ks'.map erN:=by rw [←Q1z,←Q1z];exact h4
  cases hr:rst kd path p with
  | none=>rw [dn,dn,hr,hh]
  | some x =>
   obtain ⟨j,q⟩:=x
   have hj:(ks[j]?).map erN=(ks'[j]?).map erN:=by rw [←List.getElem?_map,←List.getElem?_map,hm]
   rw [dn,dn,hr,hh]
   cases h1:ks[j]? with
   | none =>
    cases h2:ks'[j]? with
    | none=>simp only [h1,h2]
    | some k'=>rw [h1,h2] at hj;simp at hj
   | some k =>
    cases h2:ks'[j]? with
    | none=>rw [h1,h2] at hj;simp at hj
    | some k' =>
     rw [h1,h2] at hj
     simp only [Option.map_some,Option.some.injEq] at hj
     simp only [h1,h2]
     rw [kd_er hj,dn_er n k k' q hj]
theorem Qkb {t s:Nd}(h:erN t=erN s):bulkN t=bulkN s:=by rw [←Q93 t,←Q93 s,h]
def rgE (T:Pn):Int:=if rgt 0 (ndP T)=true then 0 else 1
def wyP (T:Pn)(key:List UInt8):List (List UInt8):=if rgt 0 (ndP T)=true then dn (bulkN (ndP T)) (ndP T) (Q0g key) else []
theorem mkE_P {t:Nd}{T:Pn}(h:erN t=T){key:List UInt8}(hk:key.length=32):mkE t key=rgE T:=by
 unfold mkE rgE
 rw [rgt_er 0 t (ndP T) (by rw [er_nd,h]),if_pos (by omega:key.length≤32)]
theorem mkL_P {t:Nd}{T:Pn}(h:erN t=T){key:List UInt8}(hk:key.length=32):mkL t key=wyP T key:=by
 have h2:erN t=erN (ndP T):=by rw [er_nd,h]
 unfold mkL wyP
 rw [rgt_er 0 t (ndP T) h2,if_pos (by omega:key.length≤32),Qkb h2,dn_er _ t (ndP T) _ h2]
theorem Qdi:∀ (n:Nat)(t:Nd)(d:Nat)(p:List UInt8),rgt d t=true→(∀ x∈p,x.toNat<16)→(dn n t p).length≤2*p.length+2∧(t.kd=3→(dn n t p).length≤2*p.length+1)
 | 0,t,d,p,_,_=>by rw [dn];simp
 | n+1,.mk kd pv path vv v kv ks,d,p,h,hx=>by
  cases hr:rst kd path p with
  | none=>rw [dn,hr];simp
  | some x =>
   obtain ⟨j,q⟩:=x
   obtain ⟨k,d',hk,hrk,h2,_⟩:=Q5u h hr hx
   obtain ⟨hq,hql,_⟩:=Q57 hr hx
   obtain ⟨i1,i2⟩:=Qdi n k d' q hrk hq
   rw [dn,hr]
   simp only [hk]
   by_cases hk0:k.kd=0
   ·rw [if_pos hk0];simp
   ·rw [if_neg hk0]
    simp only [length_cons]
    by_cases hk2:kd=2
    ·have hk3:=(h2 hk2).1
     have:=i2 hk3
     refine ⟨by omega,fun e=>?_⟩
     have e3:kd=3:=e
     omega
    ·have hk3:kd=3:=by
      unfold rst at hr
      rw [if_neg hk2] at hr
      by_cases h3:kd=3
      ·exact h3
      ·rw [if_neg h3] at hr;cases hr
     have hpl:p.length=q.length+1:=by
      unfold rst at hr
      rw [if_neg hk2,if_pos hk3] at hr
      cases p with
      | nil=>cases hr
      | cons y r =>
       simp only [Option.some.injEq,Prod.mk.injEq] at hr
       rw [←hr.2,length_cons]
     exact ⟨by omega,fun _=>by omega⟩
theorem Qf1 (T:Pn){key:List UInt8}(hk:key.length=32):(wyP T key).length≤130:=by
 unfold wyP
 split
 ·rename_i h
  have:=(Qdi (bulkN (ndP T)) (ndP T) 0 (Q0g key) h (Q6c key)).1
  rw [Q1g,hk] at this
  omega
 ·simp
theorem Qak:∀ (qs:Kvl),(∀ q∈qs,q.1.length≤32∧q.2.length≤1024)→bldE (qs.map ofKV)=0
 | [],_=>rfl
 | q::qs,h=>by
  have h1:=h q List.mem_cons_self
  rw [List.map_cons,bldE]
  rw [if_neg (by show ¬ 32<q.1.length;omega),if_neg (by show ¬ 1024<q.2.length;omega)]
  exact Qak qs fun q hq=>h q (List.mem_cons_of_mem _ hq)
theorem Qi5 (qs:Kvl)(h:∀ q∈qs,q.1.length≤32∧q.2.length≤1024):(bldQ qs).2=0:=by
 unfold bldQ bldP
 rw [if_pos (Qak qs h)]
def trH (H:List Hol):Pn:=(bldQ (hKV H)).1
theorem Qjy {H:List Hol}(hk:∀ h∈H,h.a.Ok):∀ q∈hKV H,q.1.length≤32∧q.2.length≤1024:=by
 intro q hq
 obtain ⟨h,hh,rfl⟩:=List.mem_map.1 hq
 exact ⟨by have:(sumB h.f).length=32:=Q0o _;dsimp only;omega,by have:=wL_len (lfA_ok (hk h hh));dsimp only;omega⟩
theorem Qd8 {H:List Hol}(hk:∀ h∈H,h.a.Ok):lvP H=if rightB H=true then (trH H,0) else (nP,1):=by
 unfold lvP trH
 rw [←Qi5 _ (Qjy hk)]
theorem Q7z {H:List Hol}(hN:H.length≤1048576){t:Nd}(ht:erN t=trH H):BgN t:=Q5k (hKV H) (by simpa [hKV] using hN) ht
def stP (H:List Hol):List UInt8 × Int:=if rightB H=true then (rtB (trH H),rgE (trH H)) else (zeroB 32,1)
theorem Qaw (H:List Hol):(stP H).1.length=32:=by
 unfold stP
 split
 ·exact Q89 _
 ·rfl
def pvP (H:List Hol)(A:List UInt8):List (List UInt8) × Int:=if rightB H=true then (wyP (trH H) (sumB A),rgE (trH H)) else ([],1)
theorem Qkw (H:List Hol)(A:List UInt8):(pvP H A).1.length≤130:=by
 unfold pvP
 split
 ·exact Qf1 _ (Q0o _)
 ·simp
def TxW (E:Int)(L:List (List UInt8)):Ty:=fun v w=>∃ a n c ps,v=.tuple #[.slice a n c,.int .i64 E]∧Texts w (.slice a n c) ps∧ps.map (·.2)=L
theorem TxW.mono (E:Int)(L:List (List UInt8)):Mono (TxW E L):=fun _ _ _ ⟨a,n,c,ps,h1,h2,h3⟩ hb=>⟨a,n,c,ps,h1,h2.below hb,h3⟩
def TlxW (L:List (List UInt8)):Ty:=fun v w=>∃ a n c ps,v=.slice a n c∧Texts w (.slice a n c) ps∧ps.map (·.2)=L
theorem TlxW.mono (L:List (List UInt8)):Mono (TlxW L):=fun _ _ _ ⟨a,n,c,ps,h1,h2,h3⟩ hb=>⟨a,n,c,ps,h1,h2.below hb,h3⟩
theorem Qks {T:Pn}{y:Nd}(he:erN y=T)(hb:BgN y)(u:World)(hI:IsNd u y):Calls Tryz.prog 35 #[.agg (Q05 y).toArray] u fun e w'=>e=.returned (.tuple #[.agg (by8 (rtB T)).toArray,.int .i64 (rgE T)])∧Below u.heap.size u w':=by
 have h:=Q9r y u hI hb
 rw [rtC_B he,rgt_er 0 y (ndP T) (by rw [er_nd,he])] at h
 exact h
theorem Qld {T:Pn}{y:Nd}(he:erN y=T)(hb:BgN y)(u:World)(hI:IsNd u y):Calls Tryz.prog 39 #[.agg (Q05 y).toArray] u fun e w'=>e=.returned (.tuple #[.agg (by8 (rtB T)).toArray,.int .i64 (rgE T)])∧Below u.heap.size u w':=by
 have h:=Qab y u hI hb
 rw [rtC_B he,rgt_er 0 y (ndP T) (by rw [er_nd,he])] at h
 exact h
theorem Qfn (a:Option Addr)(n c:Nat)(H:List Hol)(hn:H.length=n)(hN:n≤1048576)(hk:∀ h∈H,h.a.Ok)(hs:∀ h∈H,h.a.s.length≤1048576∧h.a.c.length≤1048576)(w:World)(h:RowOf hols 15 w (.slice a n c) H)(hi:∀ h∈H,h.a.In w) :
  Calls Tryz.prog 14 #[.slice a n c] w fun e w'=>e=.returned (.tuple #[.agg (by8 (stP H).1).toArray,.int .i64 (stP H).2])∧Below w.heap.size w w':=by
 obtain ⟨w1,hw1⟩:∃ w1,w1=w.alloc (.cells zh.toArray 30):=⟨_,rfl⟩
 have hz:Blk 30 w1 w.heap.size zh:=by rw [hw1];exact D01 w _ _
 have hbel:Below w.heap.size w w1:=by rw [hw1];exact Qba _ _
 have cl:=Q7e a n c H hn hN hk hs w1 (h.below hbel) (fun p hp=>(hi p hp).below hbel)
 rw [Qd8 hk] at cl
 have cr:=fun (y:Nd) (hy:erN y=trH H) u (hI:IsNd u y)=>Qks hy (Q7z (by omega) hy) u hI
 have hst:stP H=if rightB H=true then (rtB (trH H),rgE (trH H)) else (zeroB 32,1):=rfl
 have hl1:=Qaw H
 obtain ⟨S,hS⟩:∃ S,S=stP H:=⟨_,rfl⟩
 obtain ⟨T,hT⟩:∃ T,T=trH H:=⟨_,rfl⟩
 obtain ⟨q,hq⟩:∃ q,q=rightB H:=⟨_,rfl⟩
 simp only [←hS,←hT,←hq] at cl cr hst hl1 ⊢
 have hwe:w1=w.alloc (.cells #[.int .u8 0,.int .u8 0,.int .u8 0,.int .u8 0,.int .u8 0,.int .u8 0,.int .u8 0,.int .u8 0,.int .u8 0,.int .u8 0,.int .u8 0,.int .u8 0,.int .u8 0,.int .u8 0,.int .u8 0,.int .u8 0,.int .u8 0,.int .u8 0,.int .u8 0,.int .u8 0,.int .u8 0,.int .u8 0,.int .u8 0,.int .u8 0,.int .u8 0,.int .u8 0,.int .u8 0,.int .u8 0,.int .u8 0,.int .u8 0,.int .u8 0,.int .u8 0] 30):=by rw [hw1];rfl
 have HWe:=Qhd hwe
 clear hwe
 have hz4:(Q05 zN).length=4:=rfl
 have hznew:∀ u:World,Blk 70 (u.alloc (.cells #[.int .i64 0,.slice none 0 0,.slice none 0 0,.slice none 0 0] 70)) u.heap.size (Q05 zN):=fun u=>D01 u _ (Q05 zN)
 have HzN:=Qhd hznew
 cases q with
 | false =>
  rw [if_neg (by simp)] at cl hst
  subst hst
  unfold PnOwn at cl
  have Cl:=Qhd cl
  have hzl:(by8 (zeroB 32)).length=32:=rfl
  have hzz:by8 (zeroB 32)=zh:=rfl
  have hzo:∀ u∈zh,u.oneCell'=true:=by intro u hu;rw [List.eq_of_mem_replicate hu];rfl
  rw [hzz] at hzl ⊢
  clear cl cr hS hT hq hw1 hn hN hk hs h hi hznew hl1
  go_enter Tryz.func14,Tryz.ntmps14
  go_wp2_with (first
   |(go_at_call 57;rw [←HWe.out];(with_reducible refine Cl.out.mono ?_);rintro e w2 ⟨y,rfl,oy,ey,b2⟩;have hyl:=Q09 y;have hyo:=oy.is.one)
   |((with_reducible show wpList _ _ _ (⟨none,.store _ _ (.tmp 9),_,_,_,_⟩::_) _ _);refine Q00 (o:=⟨none,_,_,_,_,_⟩) (by rfl) 70 (.tmp 4) (.tmp 9) (by rfl) w2.heap.size (Q05 y) (by rfl) (by rfl) Q08 (HzN.out w2) hyl hz4 hyo (Qba w2 _) (le_refl _) ?_;intro w3 h3 b3 _;have b13:=D00 b2 b3;have hz3:=hz.kept b13;have bb3:=D00 hbel b13)
   |((with_reducible show wpList _ _ _ (⟨none,.store _ _ (.tmp 13),_,_,_,_⟩::_) _ _);refine Q00 (o:=⟨none,_,_,_,_,_⟩) (by rfl) 30 (.tmp 2) (.tmp 13) (by rfl) w.heap.size zh (by rfl) (by rfl) Q0i hz3 hzl hzl hzo bb3 (le_refl _) ?_;intro w4 h4 bb4 _))
  exact bodyPost_ret (v:=.tuple #[.agg zh.toArray,.int .i64 1]) (Q07 rfl _ _ w.heap.size Q0i h4 hzl rfl rfl) rfl ⟨rfl,bb4⟩
 | true =>
  rw [if_pos rfl] at cl hst
  subst hst
  dsimp only at hl1
  obtain ⟨R,hR⟩:∃ R,R=rtB T:=⟨_,rfl⟩
  obtain ⟨E,hE⟩:∃ R,R=rgE T:=⟨_,rfl⟩
  simp only [←hR,←hE] at cr hl1 ⊢
  unfold PnOwn at cl
  have Cl:=Qhd cl
  have Cr:=Qhd cr
  have hRl:(by8 R).length=32:=by rw [Q0p];exact hl1
  have HRo:=Qhd (u8_one R)
  have hzl:zh.length=32:=rfl
  clear cl cr hS hT hq hw1 hn hN hk hs h hi hznew hl1 hR hE
  go_enter Tryz.func14,Tryz.ntmps14
  go_wp2_with (first
   |(go_at_call 57;rw [←HWe.out];(with_reducible refine Cl.out.mono ?_);rintro e w2 ⟨y,rfl,oy,ey,b2⟩;have hyl:=Q09 y;have hyo:=oy.is.one)
   |((with_reducible show wpList _ _ _ (⟨none,.store _ _ (.tmp 9),_,_,_,_⟩::_) _ _);refine Q00 (o:=⟨none,_,_,_,_,_⟩) (by rfl) 70 (.tmp 4) (.tmp 9) (by rfl) w2.heap.size (Q05 y) (by rfl) (by rfl) Q08 (HzN.out w2) hyl hz4 hyo (Qba w2 _) (le_refl _) ?_;intro w3 h3 b3 _;have b13:=D00 b2 b3;have r3:=h3.all0;have iy:=oy.is.kept b3)
   |((with_reducible show wpList _ _ _ (⟨some 15,_,_,_,_,_⟩::_) _ _);refine Q03 (o:=⟨some 15,_,_,_,_,_⟩) 70 (.tmp 4) (by rfl) w2.heap.size 0 (by rfl) Q08 hyl r3 (by rfl) ?_)
   |(go_at_call 35;(with_reducible refine (Cr.out y ey _ iy).mono ?_);rintro e w4 ⟨rfl,b4⟩;have b14:=D00 b13 b4;have hz4':=hz.kept b14;have bb4:=D00 hbel b14)
   |((with_reducible show wpList _ _ _ (⟨none,.store _ _ (.tmp 17),_,_,_,_⟩::_) _ _);refine Q00 (o:=⟨none,_,_,_,_,_⟩) (by rfl) 30 (.tmp 2) (.tmp 17) (by rfl) w.heap.size (by8 R) (by rfl) (by rfl) Q0i hz4' hRl hzl HRo.out bb4 (le_refl _) ?_;intro w5 h5 bb5 _))
  exact bodyPost_ret (v:=.tuple #[.agg (by8 R).toArray,.int .i64 E]) (Q07 rfl _ _ w.heap.size Q0i h5 hRl rfl rfl) rfl ⟨rfl,bb5⟩
theorem Qei (a:Option Addr)(n c:Nat)(H:List Hol)(hn:H.length=n)(hN:n≤1048576)(hk:∀ h∈H,h.a.Ok)(hs:∀ h∈H,h.a.s.length≤1048576∧h.a.c.length≤1048576)(w:World)(h:RowOf hols 15 w (.slice a n c) H)(hi:∀ h∈H,h.a.In w) :
  Calls Tryz.prog 15 #[.slice a n c] w fun e w'=>e=.returned (.tuple #[.agg (by8 (stP H).1).toArray,.int .i64 (stP H).2])∧Below w.heap.size w w':=by
 obtain ⟨w1,hw1⟩:∃ w1,w1=w.alloc (.cells zh.toArray 30):=⟨_,rfl⟩
 have hz:Blk 30 w1 w.heap.size zh:=by rw [hw1];exact D01 w _ _
 have hbel:Below w.heap.size w w1:=by rw [hw1];exact Qba _ _
 have co:=Q4p a n c H hn hk w1 (h.below hbel) (fun p hp=>(hi p hp).below hbel)
 have cl:=fun u (hu:Below w1.heap.size w1 u)=>Q9z a n c H hn hN hk hs u ((h.below hbel).below hu) (fun p hp=>((hi p hp).below hbel).below hu)
 change ∀ u,Below w1.heap.size w1 u→Calls _ _ _ u (NdPost (trH H) u) at cl
 have cr:=fun (y:Nd) (hy:erN y=trH H) u (hI:IsNd u y)=>Qld hy (Q7z (by omega) hy) u hI
 have hst:stP H=if rightB H=true then (rtB (trH H),rgE (trH H)) else (zeroB 32,1):=rfl
 have hl1:=Qaw H
 obtain ⟨S,hS⟩:∃ S,S=stP H:=⟨_,rfl⟩
 obtain ⟨T,hT⟩:∃ T,T=trH H:=⟨_,rfl⟩
 obtain ⟨q,hq⟩:∃ q,q=rightB H:=⟨_,rfl⟩
 simp only [←hS,←hT,←hq] at co cl cr hst hl1 ⊢
 have hwe:w1=w.alloc (.cells #[.int .u8 0,.int .u8 0,.int .u8 0,.int .u8 0,.int .u8 0,.int .u8 0,.int .u8 0,.int .u8 0,.int .u8 0,.int .u8 0,.int .u8 0,.int .u8 0,.int .u8 0,.int .u8 0,.int .u8 0,.int .u8 0,.int .u8 0,.int .u8 0,.int .u8 0,.int .u8 0,.int .u8 0,.int .u8 0,.int .u8 0,.int .u8 0,.int .u8 0,.int .u8 0,.int .u8 0,.int .u8 0,.int .u8 0,.int .u8 0,.int .u8 0,.int .u8 0] 30):=by rw [hw1];rfl
 have HWe:=Qhd hwe
 clear hwe
 have Co:=Qhd co
 cases q with
 | false =>
  rw [if_neg (by simp)] at hst
  subst hst
  have hzl:(by8 (zeroB 32)).length=32:=rfl
  have hzz:by8 (zeroB 32)=zh:=rfl
  have hzo:∀ u∈zh,u.oneCell'=true:=by intro u hu;rw [List.eq_of_mem_replicate hu];rfl
  rw [hzz] at hzl ⊢
  clear co cl cr hS hT hq hw1 hn hN hk hs h hi hl1
  go_enter Tryz.func15,Tryz.ntmps15
  go_wp2_with (first
   |(go_at_call 58;rw [←HWe.out];(with_reducible refine Co.out.mono ?_);rintro e w2 ⟨rfl,b2⟩;have hz2:=hz.kept b2;have bb2:=D00 hbel b2)
   |((with_reducible show wpList _ _ _ (⟨none,.store _ _ (.tmp 7),_,_,_,_⟩::_) _ _);refine Q00 (o:=⟨none,_,_,_,_,_⟩) (by rfl) 30 (.tmp 2) (.tmp 7) (by rfl) w.heap.size zh (by rfl) (by rfl) Q0i hz2 hzl hzl hzo bb2 (le_refl _) ?_;intro w4 h4 bb4 _))
  exact bodyPost_ret (v:=.tuple #[.agg zh.toArray,.int .i64 1]) (Q07 rfl _ _ w.heap.size Q0i h4 hzl rfl rfl) rfl ⟨rfl,bb4⟩
 | true =>
  rw [if_pos rfl] at hst
  subst hst
  dsimp only at hl1
  obtain ⟨R,hR⟩:∃ R,R=rtB T:=⟨_,rfl⟩
  obtain ⟨E,hE⟩:∃ R,R=rgE T:=⟨_,rfl⟩
  simp only [←hR,←hE] at cr hl1 ⊢
  unfold NdPost at cl
  have Cl:=Qhd cl
  have Cr:=Qhd cr
  have hRl:(by8 R).length=32:=by rw [Q0p];exact hl1
  have HRo:=Qhd (u8_one R)
  have hzl:zh.length=32:=rfl
  clear co cl cr hS hT hq hw1 hn hN hk hs h hi hl1 hR hE
  go_enter Tryz.func15,Tryz.ntmps15
  go_wp2_with (first
   |(go_at_call 58;rw [←HWe.out];(with_reducible refine Co.out.mono ?_);rintro e w2 ⟨rfl,b2⟩)
   |(go_at_call 59;(with_reducible refine (Cl.out _ b2).mono ?_);rintro e w3 ⟨y,rfl,oy,ey,b3⟩;have iy:=oy.is;have b13:=D00 b2 b3)
   |(go_at_call 39;(with_reducible refine (Cr.out y ey _ iy).mono ?_);rintro e w4 ⟨rfl,b4⟩;have b14:=D00 b13 b4;have hz4':=hz.kept b14;have bb4:=D00 hbel b14)
   |((with_reducible show wpList _ _ _ (⟨none,.store _ _ (.tmp 11),_,_,_,_⟩::_) _ _);refine Q00 (o:=⟨none,_,_,_,_,_⟩) (by rfl) 30 (.tmp 2) (.tmp 11) (by rfl) w.heap.size (by8 R) (by rfl) (by rfl) Q0i hz4' hRl hzl HRo.out bb4 (le_refl _) ?_;intro w5 h5 bb5 _))
  exact bodyPost_ret (v:=.tuple #[.agg (by8 R).toArray,.int .i64 E]) (Q07 rfl _ _ w.heap.size Q0i h5 hRl rfl rfl) rfl ⟨rfl,bb5⟩
end Go.Proofs.YtbdmkfjgnjfjbaaGreat
