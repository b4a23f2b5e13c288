/- What a world comes to, what its proofs are: plain Lean. | world.Prove, the reference's OProve. -/
import Derived.Test.YtbdmkfjgnjfjbaaGreatLazyServesK37
import Derived.Test.YtbdmkfjgnjfjbaaGreatLazyServesK39
import Derived.Test.YtbdmkfjgnjfjbaaGreatLazyServesK40
import Derived.Test.YtbdmkfjgnjfjbaaGreatLazyServesK30
import Derived.Test.YtbdmkfjgnjfjbaaGreatLazyServesK25
import Derived.Test.YtbdmkfjgnjfjbaaGreatLazyServesK33
import Derived.Test.YtbdmkfjgnjfjbaaGreatLazyServesK31
import Derived.Test.YtbdmkfjgnjfjbaaGreatLazyServesK20
import Derived.Deep.Cut
set_option linter.unusedSimpArgs false
set_option linter.unusedVariables false
set_option maxHeartbeats 4000000
set_option maxRecDepth 100000
namespace Go.Proofs.YtbdmkfjgnjfjbaaGreat
open Go.RowKit
theorem kd_er {t s:Nd}(h:erN t=erN s):t.kd=s.kd:=by
 obtain ⟨⟩:=t;obtain ⟨⟩:=s
 simp only [erN,Pn.mk.injEq] at h
 exact h.1
theorem hdN_er {t s:Nd}(h:erN t=erN s):hdN t=hdN s:=by
 have hk:=kd_er h
 obtain ⟨l,hl⟩:=alN_ne t
 obtain ⟨m,hm⟩:=alN_ne s
 unfold hdN whN
 rw [hk,hl,hm,cdN_er t s h]
 split<;>rfl
theorem dn_er:∀ (n:Nat)(t s:Nd)(p:List UInt8),erN t=erN s→dn n t p=dn n s p
 | 0,t,s,p,h=>by rw [dn,dn,hdN_er h]
 | n+1,.mk kd pv path vv v kv ks,.mk kd' pv' path' vv' v' kv' ks',p,h=>by
  have hh:=hdN_er h
  simp only [erN,Pn.mk.injEq] at h
  obtain ⟨rfl,rfl,rfl,h4⟩:=h
  have hm:ks.map erN=ks'.map erN:=by rw [←Q1y,←Q1y];exact h4
  cases hr:rst kd path p with
  | none=>rw [dn,dn,hr,hh]
  | some x =>
   obtain ⟨j,q⟩:=x
   have hj:(ks[j]?).map erN=(ks'[j]?).map erN:=by rw [←List.getElem?_map,←List.getElem?_map,hm]
   rw [dn,dn,hr,hh]
   cases h1:ks[j]? with
   | none =>
    cases h2:ks'[j]? with
    | none=>simp only [h1,h2]
    | some k'=>rw [h1,h2] at hj;simp at hj
   | some k =>
    cases h2:ks'[j]? with
    | none=>rw [h1,h2] at hj;simp at hj
    | some k' =>
     rw [h1,h2] at hj
     simp only [Option.map_some,Option.some.injEq] at hj
     simp only [h1,h2]
     rw [kd_er hj,dn_er n k k' q hj]
theorem Qkl {t s:Nd}(h:erN t=erN s):bulkN t=bulkN s:=by rw [←Q95 t,←Q95 s,h]
def rgE (T:Pn):Int:=if rgt 0 (ndP T)=true then 0 else 1
def wyP (T:Pn)(key:List UInt8):List (List UInt8):=if rgt 0 (ndP T)=true then dn (bulkN (ndP T)) (ndP T) (Q0d key) else []
theorem mkE_P {t:Nd}{T:Pn}(h:erN t=T){key:List UInt8}(hk:key.length=32):mkE t key=rgE T:=by
 unfold mkE rgE
 rw [rgt_er 0 t (ndP T) (by rw [er_nd,h]),if_pos (by omega:key.length≤32)]
theorem mkL_P {t:Nd}{T:Pn}(h:erN t=T){key:List UInt8}(hk:key.length=32):mkL t key=wyP T key:=by
 have h2:erN t=erN (ndP T):=by rw [er_nd,h]
 unfold mkL wyP
 rw [rgt_er 0 t (ndP T) h2,if_pos (by omega:key.length≤32),Qkl h2,dn_er _ t (ndP T) _ h2]
theorem Qdi:∀ (n:Nat)(t:Nd)(d:Nat)(p:List UInt8),rgt d t=true→(∀ x∈p,x.toNat<16)→(dn n t p).length≤2*p.length+2∧(t.kd=3→(dn n t p).length≤2*p.length+1)
 | 0,t,d,p,_,_=>by rw [dn];simp
 | n+1,.mk kd pv path vv v kv ks,d,p,h,hx=>by
  cases hr:rst kd path p with
  | none=>rw [dn,hr];simp
  | some x =>
   obtain ⟨j,q⟩:=x
   obtain ⟨k,d',hk,hrk,h2,_⟩:=Q4r h hr hx
   obtain ⟨hq,hql,_⟩:=Q48 hr hx
   obtain ⟨i1,i2⟩:=Qdi n k d' q hrk hq
   rw [dn,hr]
   simp only [hk]
   by_cases hk0:k.kd=0
   ·rw [if_pos hk0];simp
   ·rw [if_neg hk0]
    simp only [List.length_cons]
    by_cases hk2:kd=2
    ·have hk3:=(h2 hk2).1
     have:=i2 hk3
     refine ⟨by omega,fun e=>?_⟩
     have e3:kd=3:=e
     omega
    ·have hk3:kd=3:=by
      unfold rst at hr
      rw [if_neg hk2] at hr
      by_cases h3:kd=3
      ·exact h3
      ·rw [if_neg h3] at hr;cases hr
     have hpl:p.length=q.length+1:=by
      unfold rst at hr
      rw [if_neg hk2,if_pos hk3] at hr
      cases p with
      | nil=>cases hr
      | cons y r =>
       simp only [Option.some.injEq,Prod.mk.injEq] at hr
       rw [←hr.2,List.length_cons]
     exact ⟨by omega,fun _=>by omega⟩
theorem Qf0 (T:Pn){key:List UInt8}(hk:key.length=32):(wyP T key).length≤130:=by
 unfold wyP
 split
 ·rename_i h
  have:=(Qdi (bulkN (ndP T)) (ndP T) 0 (Q0d key) h (Q4g key)).1
  rw [Q1f,hk] at this
  omega
 ·simp
theorem Qai:∀ (qs:Kvl),(∀ q∈qs,q.1.length≤32∧q.2.length≤1024)→bldE (qs.map ofKV)=0
 | [],_=>rfl
 | q::qs,h=>by
  have h1:=h q List.mem_cons_self
  rw [List.map_cons,bldE]
  rw [if_neg (by show ¬ 32<q.1.length;omega),if_neg (by show ¬ 1024<q.2.length;omega)]
  exact Qai qs fun q hq=>h q (List.mem_cons_of_mem _ hq)
theorem Qid (qs:Kvl)(h:∀ q∈qs,q.1.length≤32∧q.2.length≤1024):(bldQ qs).2=0:=by
 unfold bldQ bldP
 rw [if_pos (Qai qs h)]
def trH (H:List Hol):Pn:=(bldQ (hKV H)).1
theorem Qk8 {H:List Hol}(hk:∀ h∈H,h.a.Ok):∀ q∈hKV H,q.1.length≤32∧q.2.length≤1024:=by
 intro q hq
 obtain ⟨h,hh,rfl⟩:=List.mem_map.1 hq
 exact ⟨by have:(sumB h.f).length=32:=Q0i _;dsimp only;omega,by have:=wL_len (lfA_ok (hk h hh));dsimp only;omega⟩
theorem Qjx {H:List Hol}(hk:∀ h∈H,h.a.Ok):lvP H=if rightB H=true then (trH H,0) else (nP,1):=by
 unfold lvP trH
 rw [←Qid _ (Qk8 hk)]
theorem Qff {H:List Hol}(hN:H.length≤1048576){t:Nd}(ht:erN t=trH H):BgN t:=Q5m (hKV H) (by simpa [hKV] using hN) ht
def pvP (H:List Hol)(A:List UInt8):List (List UInt8) × Int:=if rightB H=true then (wyP (trH H) (sumB A),rgE (trH H)) else ([],1)
theorem Ql6 (H:List Hol)(A:List UInt8):(pvP H A).1.length≤130:=by
 unfold pvP
 split
 ·exact Qf0 _ (Q0i _)
 ·simp
def TxW (E:Int)(L:List (List UInt8)):Ty:=fun v w=>∃ a n c ps,v=.tuple #[.slice a n c,.int .i64 E]∧Texts w (.slice a n c) ps∧ps.map (·.2)=L
theorem TxW.mono (E:Int)(L:List (List UInt8)):Mono (TxW E L):=fun _ _ _ ⟨a,n,c,ps,h1,h2,h3⟩ hb=>⟨a,n,c,ps,h1,h2.below hb,h3⟩
def TlxW (L:List (List UInt8)):Ty:=fun v w=>∃ a n c ps,v=.slice a n c∧Texts w (.slice a n c) ps∧ps.map (·.2)=L
theorem TlxW.mono (L:List (List UInt8)):Mono (TlxW L):=fun _ _ _ ⟨a,n,c,ps,h1,h2,h3⟩ hb=>⟨a,n,c,ps,h1,h2.below hb,h3⟩
theorem make_T {T:Pn}{y:Nd}(he:erN y=T)(hb:BgN y)(a:Option Addr)(c:Nat){key:List UInt8}(hk:key.length=32)(u:World)(hI:IsNd u y)(hB:Bytes u (.slice a 32 c) key):Calls Tryz.prog 60 #[.agg (Q03 y).toArray,.slice a 32 c] u (MkP (rgE T) (wyP T key) u):=by
 have h:=Qjw y a 32 c key hk u hI hb hB
 rw [mkE_P he hk,mkL_P he hk] at h
 exact h
theorem Qhq {T:Pn}{y:Nd}(he:erN y=T)(hb:BgN y)(a:Option Addr)(c:Nat){key:List UInt8}(hk:key.length=32)(u:World)(hI:IsNd u y)(hB:Bytes u (.slice a 32 c) key):Calls Tryz.prog 61 #[.agg (Q03 y).toArray,.slice a 32 c] u (MkP (rgE T) (wyP T key) u):=by
 have h:=Qhp y a 32 c key hk u hI hb hB
 rw [mkE_P he hk,mkL_P he hk] at h
 exact h
theorem MkP.tx {E:Int}{L:List (List UInt8)}{w w':World}{e:Ending}(h:MkP E L w e w'):∃ v,e=.returned v∧TxW E L v w'∧Below w.heap.size w w':=by
 obtain ⟨v,ps,rfl,r,t,m,b⟩:=h
 obtain ⟨a,c,rfl,_⟩:=r.form
 exact ⟨_,rfl,⟨a,_,c,ps,rfl,⟨r,t⟩,m⟩,b⟩
theorem MkP.of {E:Int}{L:List (List UInt8)}{w w':World}{a:Option Addr}{n c:Nat}{ps:List (Value × List UInt8)}(h:Texts w' (.slice a n c) ps)(m:ps.map (·.2)=L)(b:Below w.heap.size w w'):MkP E L w (.returned (.tuple #[.slice a n c,.int .i64 E])) w' :=
 ⟨_,ps,rfl,h.1,h.2,m,b⟩
theorem MkP.nil {E:Int}{w w':World}(b:Below w.heap.size w w'):MkP E [] w (.returned (.tuple #[.slice none 0 0,.int .i64 E])) w' :=
 ⟨_,[],rfl,RowOf.nil tcell 1 _,fun q hq=>absurd hq (by simp),rfl,b⟩
def NdW (T:Pn):Ty:=fun v w=>∃ y:Nd,v=.agg (Q03 y).toArray∧IsNd w y∧erN y=T
theorem NdW.mono (T:Pn):Mono (NdW T):=fun _ _ _ ⟨y,h1,h2,h3⟩ hb=>⟨y,h1,h2.kept hb,h3⟩
theorem Qgd (a:Option Addr)(n c:Nat)(H:List Hol)(hn:H.length=n)(hN:n≤1048576)(hk:∀ h∈H,h.a.Ok)(hs:∀ h∈H,h.a.s.length≤1048576∧h.a.c.length≤1048576)(A:List UInt8)(hA:A.length=8)(w:World)(h:RowOf hols 15 w (.slice a n c) H)(hi:∀ h∈H,h.a.In w) :
  Calls Tryz.prog 16 #[.slice a n c,.agg (by8 A).toArray] w (MkP (pvP H A).2 (pvP H A).1 w):=by
 obtain ⟨w1,hw1⟩:∃ w1,w1=w.alloc (.cells (by8 A).toArray 41):=⟨_,rfl⟩
 have ha:Blk 41 w1 w.heap.size (by8 A):=by rw [hw1];exact Blk.new w _ _
 have hbel:Below w.heap.size w w1:=by rw [hw1];exact Qba _ _
 have cl:=Qel a n c H hn hN hk hs w1 (h.below hbel) (fun p hp=>(hi p hp).below hbel)
 rw [Qjx hk] at cl
 have hSl:(sumB A).length=32:=Q0i _
 have c0:=fun u (hu:Below w1.heap.size w1 u)=>Q3w (some ⟨w.heap.size,0,none⟩) 8 8 A hA u (Q5n (ha.kept hu) hA)
 have cm:=fun (y:Nd) (hy:erN y=trH H) (a:Option Addr) (c:Nat) u (hI:IsNd u y) hB=>make_T hy (Qff (by omega) hy) a c hSl u hI hB
 have hpv:pvP H A=if rightB H=true then (wyP (trH H) (sumB A),rgE (trH H)) else ([],1):=rfl
 obtain ⟨R,hR⟩:∃ R,R=pvP H A:=⟨_,rfl⟩
 obtain ⟨SB,hSB⟩:∃ B,B=sumB A:=⟨_,rfl⟩
 obtain ⟨T,hT⟩:∃ T,T=trH H:=⟨_,rfl⟩
 obtain ⟨q,hq⟩:∃ q,q=rightB H:=⟨_,rfl⟩
 simp only [←hR,←hSB,←hT,←hq] at cl c0 cm hpv hSl ⊢
 obtain ⟨AC,hAC⟩:∃ C,C=by8 A:=⟨_,rfl⟩
 rw [←hAC] at hw1 ⊢
 have HWe:=Qhd hw1
 have hz4:(Q03 zN).length=4:=rfl
 have hznew:∀ u:World,Blk 70 (u.alloc (.cells #[.int .i64 0,.slice none 0 0,.slice none 0 0,.slice none 0 0] 70)) u.heap.size (Q03 zN):=fun u=>Blk.new u _ (Q03 zN)
 have HzN:=Qhd hznew
 cases q with
 | false =>
  rw [if_neg (by simp)] at cl hpv
  subst hpv
  unfold PnOwn at cl
  have Cl:=Qhd cl
  clear cl c0 cm hR hSB hT hq hAC hw1 hn hN hk hs h hi hznew hSl hA ha
  go_enter Tryz.func16,Tryz.ntmps16
  go_wp2_with (first
   |(go_at_call 57;rw [←HWe.out];(with_reducible refine Cl.out.mono ?_);rintro e w2 ⟨y,rfl,oy,ey,b2⟩;have hyl:=Q06 y;have hyo:=oy.is.one)
   |((with_reducible refine Qgs 12 ?_);refine Qsa 70 6 12 w2.heap.size (Q03 y) Q05 (HzN.out w2) hyl hz4 hyo (Qba w2 _) (Nat.le_refl _) ?_;intro w3 h3 b3 _;have b13:=Below.then b2 b3;have bb3:=Below.then hbel b13))
  go_ret2
  exact MkP.nil bb3
 | true =>
  rw [if_pos rfl] at cl hpv
  subst hpv
  obtain ⟨L,hL⟩:∃ R,R=wyP T SB:=⟨_,rfl⟩
  obtain ⟨E,hE⟩:∃ R,R=rgE T:=⟨_,rfl⟩
  simp only [←hL,←hE] at cm ⊢
  unfold PnOwn at cl
  have Cl:=Qhd cl
  have Cm:=Qhd cm
  have C0:Hid (∀ u,Below w1.heap.size w1 u→Calls Tryz.prog 37 #[.slice (some ⟨w.heap.size,0,none⟩) 8 8] u fun e w'=>e=.returned (.agg (by8 SB).toArray)∧Below u.heap.size u w'):=Qhd c0
  have HSl:=Qhd hSl
  have hSl2:(by8 SB).length=32:=by rw [Q0n];exact hSl
  have HSo:=Qhd (u8_one SB)
  have s8:=fun off u=>sl8 w.heap.size off u
  clear cl c0 cm hR hSB hT hq hAC hw1 hn hN hk hs h hi hznew hL hE hA hSl ha
  go_enter Tryz.func16,Tryz.ntmps16
  go_upto_region 5 with (first
   |(go_at_call 57;rw [←HWe.out];(with_reducible refine Cl.out.mono ?_);rintro e w2 ⟨y,rfl,oy,ey,b2⟩;have hyl:=Q06 y;have hyo:=oy.is.one)
   |((with_reducible refine Qgs 12 ?_);refine Qsa 70 6 12 w2.heap.size (Q03 y) Q05 (HzN.out w2) hyl hz4 hyo (Qba w2 _) (Nat.le_refl _) ?_;intro w3 h3 b3 _;have b13:=Below.then b2 b3;have iy:=oy.is.kept b3)
   |(go_at_call 37;(with_reducible refine (C0.out _ b13).mono ?_);rintro e w4 ⟨rfl,b4⟩;have n4:=Blk.new w4 30 zh;have b14:=Below.then b13 b4;have h34:=h3.kept b4;have iy4:=iy.kept b4)
   |((with_reducible refine Qgs 18 ?_);refine Qsa 30 8 18 w4.heap.size (by8 SB) Q0l n4 hSl2 (by rfl) HSo.out (Qba w4 _) (Nat.le_refl _) ?_;intro w5 h5 b5 _))
  have b15:=Below.then b14 b5
  have hbel5:=Below.then hbel b15
  have iy5:=iy4.kept b5
  have S3:=Qhd (h34.kept b5).all0
  have hfk:Hid (∀ u,Below w5.heap.size w5 u→Bytes u (.slice (some ⟨w4.heap.size,0,none⟩) 32 32) SB):=Qhd fun u hu=>Q1u (h5.kept hu) HSl.out
  have s32:=fun off u=>sl32 w4.heap.size off u
  have cy:Hid (∀ u,Below w5.heap.size w5 u→Calls Tryz.prog 60 #[.agg (Q03 y).toArray,.slice (some ⟨w4.heap.size,0,none⟩) 32 32] u (MkP E L u)):=Qhd fun u hu=>Cm.out y ey _ _ u (iy5.kept hu) (hfk.out u hu)
  obtain ⟨Y,hY⟩:∃ Y,Y=Q03 y:=⟨_,rfl⟩
  rw [←hY] at hyl S3
  have Cy:Hid (∀ u,Below w5.heap.size w5 u→Calls Tryz.prog 60 #[.agg Y.toArray,.slice (some ⟨w4.heap.size,0,none⟩) 32 32] u (MkP E L u)):=by rw [hY];exact cy
  have Hyl:=Qhd hyl
  clear h3 h5 n4 b2 b3 b4 b5 b13 b14 b15 s8 hSl2 h34 iy iy4 iy5 oy cy ey hY hyo hyl hfk
  refine Q02 w5 7 (by kernel_rfl) (by kernel_rfl) (Below.refl _ _) ?_;simp only [List.take_succ_cons,List.take_zero,List.take_nil]
  (refine Q01 (by rfl) (fun K hK=>?_);rw [if_pos (by rfl)];refine ⟨_,fun u=>Q08 _ (.tmp 6) (by rfl) _ _ (by rfl) Q05 Hyl.out (rangeAt.ext S3.out u),hK _ ?_⟩;clear hK K;simp only [Act.put,Qzs])
  (refine Q01 (by rfl) (fun K hK=>?_);go_simp;refine hK _ ?_;clear hK K)
  refine Q07 21 (TxW E L) rfl (of_decide_eq_true rfl) (TxW.mono _ _) (fun w7 hw7=>?_) ?_
  ·simp only [relOf,List.filter_nil,Q00]
   refine ⟨rfl,?_⟩
   go_simp
   refine (Cy.out w7 hw7).mono ?_
   intro e w8 h8
   obtain ⟨v,rfl,hv,b8⟩:=MkP.tx h8
   exact ⟨_,rfl,hv,b8⟩
  refine Q07 22 (TlxW L) rfl (of_decide_eq_true rfl) (TlxW.mono _) (fun w7 hw7=>?_) ?_
  ·change Q00 w7 [(21,_)] _ _
   rintro v ⟨va,vn,vc,ps,rfl,hv⟩
   simp only [Q00]
   refine ⟨rfl,?_⟩
   go_simp
   exact ⟨Below.refl _ _,_,_,_,_,rfl,hv⟩
  refine wpX_eq (.int .i64 E) (fun w7 hw7=>?_) ?_
  ·change Q00 w7 [(21,_)] _ _
   rintro v ⟨va,vn,vc,ps,rfl,hv⟩
   simp only [Q00]
   refine ⟨rfl,?_⟩
   go_simp
   exact Below.refl _ _
  refine Q07 4 (TlxW L) rfl (of_decide_eq_true rfl) (TlxW.mono _) (fun w7 hw7=>?_) ?_
  ·change Q00 w7 [(22,_)] _ _
   rintro v ⟨va,vn,vc,ps,rfl,hv⟩
   simp only [Q00]
   refine ⟨rfl,?_⟩
   go_simp
   exact ⟨Below.refl _ _,_,_,_,_,rfl,hv⟩
  (refine Q01 (by rfl) (fun K hK=>?_);go_simp;refine hK _ ?_;clear hK K)
  refine Q09 ?_
  intro u2 hb2 v21 _ v22 _ v4 h4
  change Q00 u2 [] _ _
  simp only [Q00,List.drop_succ_cons,List.drop_zero,List.drop_nil]
  obtain ⟨va,vn,vc,ps,rfl,hv,hm⟩:=h4
  clear s32
  try simp only [Act.put,Qzs]
  go_wp2_with fail
  go_ret2
  exact MkP.of hv hm (Below.then hbel5 hb2)
theorem Qej (a:Option Addr)(n c:Nat)(H:List Hol)(hn:H.length=n)(hN:n≤1048576)(hk:∀ h∈H,h.a.Ok)(hs:∀ h∈H,h.a.s.length≤1048576∧h.a.c.length≤1048576)(A:List UInt8)(hA:A.length=8)(w:World)(h:RowOf hols 15 w (.slice a n c) H)(hi:∀ h∈H,h.a.In w) :
  Calls Tryz.prog 17 #[.slice a n c,.agg (by8 A).toArray] w (MkP (pvP H A).2 (pvP H A).1 w):=by
 obtain ⟨w1,hw1⟩:∃ w1,w1=w.alloc (.cells (by8 A).toArray 41):=⟨_,rfl⟩
 have ha:Blk 41 w1 w.heap.size (by8 A):=by rw [hw1];exact Blk.new w _ _
 have hbel:Below w.heap.size w w1:=by rw [hw1];exact Qba _ _
 have co:=Q7d a n c H hn hk w1 (h.below hbel) (fun p hp=>(hi p hp).below hbel)
 have cl:=fun u (hu:Below w1.heap.size w1 u)=>Qgp a n c H hn hN hk hs u ((h.below hbel).below hu) (fun p hp=>((hi p hp).below hbel).below hu)
 change ∀ u,Below w1.heap.size w1 u→Calls _ _ _ u (NdPost (trH H) u) at cl
 have hSl:(sumB A).length=32:=Q0i _
 have c0:=fun u (hu:Below w1.heap.size w1 u)=>Q3k (some ⟨w.heap.size,0,none⟩) 8 8 A hA u (Q5n (ha.kept hu) hA) (by omega)
 have cm:=fun (y:Nd) (hy:erN y=trH H) (a:Option Addr) (c:Nat) u (hI:IsNd u y) hB=>Qhq hy (Qff (by omega) hy) a c hSl u hI hB
 have hpv:pvP H A=if rightB H=true then (wyP (trH H) (sumB A),rgE (trH H)) else ([],1):=rfl
 obtain ⟨R,hR⟩:∃ R,R=pvP H A:=⟨_,rfl⟩
 obtain ⟨SB,hSB⟩:∃ B,B=sumB A:=⟨_,rfl⟩
 obtain ⟨T,hT⟩:∃ T,T=trH H:=⟨_,rfl⟩
 obtain ⟨q,hq⟩:∃ q,q=rightB H:=⟨_,rfl⟩
 simp only [←hR,←hSB,←hT,←hq] at co cl c0 cm hpv hSl ⊢
 obtain ⟨AC,hAC⟩:∃ C,C=by8 A:=⟨_,rfl⟩
 rw [←hAC] at hw1 ⊢
 have HWe:=Qhd hw1
 have Co:=Qhd co
 cases q with
 | false =>
  rw [if_neg (by simp)] at hpv
  subst hpv
  clear co cl c0 cm hR hSB hT hq hAC hw1 hn hN hk hs h hi hSl hA ha
  go_enter Tryz.func17,Tryz.ntmps17
  go_wp2_with (go_at_call 58;rw [←HWe.out];(with_reducible refine Co.out.mono ?_);rintro e w2 ⟨rfl,b2⟩;have bb3:=Below.then hbel b2)
  go_ret2
  exact MkP.nil bb3
 | true =>
  rw [if_pos rfl] at hpv
  subst hpv
  obtain ⟨L,hL⟩:∃ R,R=wyP T SB:=⟨_,rfl⟩
  obtain ⟨E,hE⟩:∃ R,R=rgE T:=⟨_,rfl⟩
  simp only [←hL,←hE] at cm ⊢
  unfold NdPost at cl
  have Cl:=Qhd cl
  have Cm:=Qhd cm
  have C0:=Qhd c0
  have HSl:=Qhd hSl
  have s8:=fun off u=>sl8 w.heap.size off u
  clear co cl c0 cm hR hSB hT hq hAC hw1 hn hN hk hs h hi hL hE hA hSl ha
  go_enter Tryz.func17,Tryz.ntmps17
  go_upto_region 3 with (go_at_call 58;rw [←HWe.out];(with_reducible refine Co.out.mono ?_);rintro e w2 ⟨rfl,b2⟩;have bb2:=Below.then hbel b2)
  clear Co
  refine Q02 w2 9 (by kernel_rfl) (by kernel_rfl) (Below.refl _ _) ?_;simp only [List.take_succ_cons,List.take_zero,List.take_nil]
  (refine Q01 (by rfl) (fun K hK=>?_);go_simp;refine hK _ ?_;clear hK K)
  refine Q07 10 (NdW T) rfl (of_decide_eq_true rfl) (NdW.mono _) (fun w7 hw7=>?_) ?_
  ·simp only [relOf,List.filter_nil,Q00]
   refine ⟨rfl,?_⟩
   go_simp
   refine (Cl.out w7 (Below.then b2 hw7)).mono ?_
   rintro e w8 ⟨y,rfl,oy,ey,b8⟩
   exact ⟨_,rfl,⟨y,rfl,oy.is,ey⟩,b8⟩
  (refine Q01 (by rfl) (fun K hK=>?_);go_simp;refine hK _ ?_;clear hK K)
  refine Q07 12 (FrT 0 SB) rfl (of_decide_eq_true rfl) (FrT.mono _ _) (fun w7 hw7=>?_) ?_
  ·simp only [relOf,List.filter_nil,List.filter_cons,Q00]
   try simp only [Q00]
   refine ⟨rfl,?_⟩
   go_simp
   refine (C0.out w7 (Below.then b2 hw7)).mono ?_
   rintro e w8 ⟨v,rfl,o8,b8⟩
   exact ⟨v,rfl,o8.lower (Nat.zero_le _),b8⟩
  refine Q07 13 (TxW E L) rfl (of_decide_eq_true rfl) (TxW.mono _ _) (fun w7 hw7=>?_) ?_
  ·change Q00 w7 [(12,_),(10,_)] _ _
   intro v12 h12 v10 h10
   obtain ⟨ka,kc,rfl,_⟩:=h12.1.form' 32 HSl.out
   obtain ⟨y,rfl,iy,ey⟩:=h10
   simp only [Q00]
   refine ⟨rfl,?_⟩
   go_simp
   refine (Cm.out y ey _ _ w7 iy h12.1).mono ?_
   intro e w8 h8
   obtain ⟨v,rfl,hv,b8⟩:=MkP.tx h8
   exact ⟨_,rfl,hv,b8⟩
  refine Q07 14 (TlxW L) rfl (of_decide_eq_true rfl) (TlxW.mono _) (fun w7 hw7=>?_) ?_
  ·change Q00 w7 [(13,_)] _ _
   rintro v ⟨va,vn,vc,ps,rfl,hv⟩
   simp only [Q00]
   refine ⟨rfl,?_⟩
   go_simp
   exact ⟨Below.refl _ _,_,_,_,_,rfl,hv⟩
  refine wpX_eq (.int .i64 E) (fun w7 hw7=>?_) ?_
  ·change Q00 w7 [(13,_)] _ _
   rintro v ⟨va,vn,vc,ps,rfl,hv⟩
   simp only [Q00]
   refine ⟨rfl,?_⟩
   go_simp
   exact Below.refl _ _
  refine Q07 4 (TlxW L) rfl (of_decide_eq_true rfl) (TlxW.mono _) (fun w7 hw7=>?_) ?_
  ·change Q00 w7 [(14,_)] _ _
   rintro v ⟨va,vn,vc,ps,rfl,hv⟩
   simp only [Q00]
   refine ⟨rfl,?_⟩
   go_simp
   exact ⟨Below.refl _ _,_,_,_,_,rfl,hv⟩
  (refine Q01 (by rfl) (fun K hK=>?_);go_simp;refine hK _ ?_;clear hK K)
  refine Q09 ?_
  intro u2 hb2 v10 _ v12 _ v13 _ v14 _ v4 h4
  change Q00 u2 [] _ _
  simp only [Q00,List.drop_succ_cons,List.drop_zero,List.drop_nil]
  obtain ⟨va,vn,vc,ps,rfl,hv,hm⟩:=h4
  clear s8
  try simp only [Act.put,Qzs]
  go_wp2_with fail
  go_ret2
  exact MkP.of hv hm (Below.then bb2 hb2)
end Go.Proofs.YtbdmkfjgnjfjbaaGreat
