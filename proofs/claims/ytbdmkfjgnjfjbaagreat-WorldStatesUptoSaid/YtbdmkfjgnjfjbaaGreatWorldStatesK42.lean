/- world.Prove, the reference's OProve. -/
import Derived.Test.YtbdmkfjgnjfjbaaGreatWorldStatesK41
import Derived.Test.YtbdmkfjgnjfjbaaGreatWorldStatesK30
import Derived.Test.YtbdmkfjgnjfjbaaGreatWorldStatesK25
import Derived.Test.YtbdmkfjgnjfjbaaGreatWorldStatesK34
import Derived.Test.YtbdmkfjgnjfjbaaGreatWorldStatesK31
import Derived.Test.YtbdmkfjgnjfjbaaGreatWorldStatesK20
import Derived.Deep.Cut
set_option linter.unusedSimpArgs false
set_option linter.unusedVariables false
set_option maxHeartbeats 4000000
set_option maxRecDepth 100000
namespace Go.Proofs.YtbdmkfjgnjfjbaaGreat
open Go.RowKit
theorem make_T {T:Pn}{y:Nd}(he:erN y=T)(hb:BgN y)(a:Option Addr)(c:Nat){key:List UInt8}(hk:key.length=32)(u:World)(hI:IsNd u y)(hB:Bytes u (.slice a 32 c) key):Calls Tryz.prog 60 #[.agg (Q05 y).toArray,.slice a 32 c] u (MkP (rgE T) (wyP T key) u):=by
 have h:=Qjn y a 32 c key hk u hI hb hB
 rw [mkE_P he hk,mkL_P he hk] at h
 exact h
theorem Qhk {T:Pn}{y:Nd}(he:erN y=T)(hb:BgN y)(a:Option Addr)(c:Nat){key:List UInt8}(hk:key.length=32)(u:World)(hI:IsNd u y)(hB:Bytes u (.slice a 32 c) key):Calls Tryz.prog 61 #[.agg (Q05 y).toArray,.slice a 32 c] u (MkP (rgE T) (wyP T key) u):=by
 have h:=Qhj y a 32 c key hk u hI hb hB
 rw [mkE_P he hk,mkL_P he hk] at h
 exact h
theorem MkP.tx {E:Int}{L:List (List UInt8)}{w w':World}{e:Ending}(h:MkP E L w e w'):∃ v,e=.returned v∧TxW E L v w'∧Below w.heap.size w w':=by
 obtain ⟨v,ps,rfl,r,t,m,b⟩:=h
 obtain ⟨a,c,rfl,_⟩:=r.form
 exact ⟨_,rfl,⟨a,_,c,ps,rfl,⟨r,t⟩,m⟩,b⟩
theorem MkP.of {E:Int}{L:List (List UInt8)}{w w':World}{a:Option Addr}{n c:Nat}{ps:List (Value × List UInt8)}(h:Texts w' (.slice a n c) ps)(m:ps.map (·.2)=L)(b:Below w.heap.size w w'):MkP E L w (.returned (.tuple #[.slice a n c,.int .i64 E])) w' :=
 ⟨_,ps,rfl,h.1,h.2,m,b⟩
theorem MkP.nil {E:Int}{w w':World}(b:Below w.heap.size w w'):MkP E [] w (.returned (.tuple #[.slice none 0 0,.int .i64 E])) w' :=
 ⟨_,[],rfl,RowOf.nil tcell 1 _,fun q hq=>absurd hq (by simp),rfl,b⟩
def NdW (T:Pn):Ty:=fun v w=>∃ y:Nd,v=.agg (Q05 y).toArray∧IsNd w y∧erN y=T
theorem NdW.mono (T:Pn):Mono (NdW T):=fun _ _ _ ⟨y,h1,h2,h3⟩ hb=>⟨y,h1,h2.kept hb,h3⟩
theorem Qgb (a:Option Addr)(n c:Nat)(H:List Hol)(hn:H.length=n)(hN:n≤1048576)(hk:∀ h∈H,h.a.Ok)(hs:∀ h∈H,h.a.s.length≤1048576∧h.a.c.length≤1048576)(A:List UInt8)(hA:A.length=8)(w:World)(h:RowOf hols 15 w (.slice a n c) H)(hi:∀ h∈H,h.a.In w) :
  Calls Tryz.prog 16 #[.slice a n c,.agg (by8 A).toArray] w (MkP (pvP H A).2 (pvP H A).1 w):=by
 obtain ⟨w1,hw1⟩:∃ w1,w1=w.alloc (.cells (by8 A).toArray 41):=⟨_,rfl⟩
 have ha:Blk 41 w1 w.heap.size (by8 A):=by rw [hw1];exact D01 w _ _
 have hbel:Below w.heap.size w w1:=by rw [hw1];exact Qba _ _
 have cl:=Q7e a n c H hn hN hk hs w1 (h.below hbel) (fun p hp=>(hi p hp).below hbel)
 rw [Qd8 hk] at cl
 have hSl:(sumB A).length=32:=Q0o _
 have c0:=fun u (hu:Below w1.heap.size w1 u)=>Q3t (some ⟨w.heap.size,0,none⟩) 8 8 A hA u (Q5l (ha.kept hu) hA)
 have cm:=fun (y:Nd) (hy:erN y=trH H) (a:Option Addr) (c:Nat) u (hI:IsNd u y) hB=>make_T hy (Q7z (by omega) hy) a c hSl u hI hB
 have hpv:pvP H A=if rightB H=true then (wyP (trH H) (sumB A),rgE (trH H)) else ([],1):=rfl
 obtain ⟨R,hR⟩:∃ R,R=pvP H A:=⟨_,rfl⟩
 obtain ⟨SB,hSB⟩:∃ B,B=sumB A:=⟨_,rfl⟩
 obtain ⟨T,hT⟩:∃ T,T=trH H:=⟨_,rfl⟩
 obtain ⟨q,hq⟩:∃ q,q=rightB H:=⟨_,rfl⟩
 simp only [←hR,←hSB,←hT,←hq] at cl c0 cm hpv hSl ⊢
 obtain ⟨AC,hAC⟩:∃ C,C=by8 A:=⟨_,rfl⟩
 rw [←hAC] at hw1 ⊢
 have HWe:=Qhd hw1
 have hz4:(Q05 zN).length=4:=rfl
 have hznew:∀ u:World,Blk 70 (u.alloc (.cells #[.int .i64 0,.slice none 0 0,.slice none 0 0,.slice none 0 0] 70)) u.heap.size (Q05 zN):=fun u=>D01 u _ (Q05 zN)
 have HzN:=Qhd hznew
 cases q with
 | false =>
  rw [if_neg (by simp)] at cl hpv
  subst hpv
  unfold PnOwn at cl
  have Cl:=Qhd cl
  clear cl c0 cm hR hSB hT hq hAC hw1 hn hN hk hs h hi hznew hSl hA ha
  go_enter Tryz.func16,Tryz.ntmps16
  go_wp2_with (first
   |(go_at_call 57;rw [←HWe.out];(with_reducible refine Cl.out.mono ?_);rintro e w2 ⟨y,rfl,oy,ey,b2⟩;have hyl:=Q09 y;have hyo:=oy.is.one)
   |((with_reducible show wpList _ _ _ (⟨none,.store _ _ (.tmp 12),_,_,_,_⟩::_) _ _);refine Q00 (o:=⟨none,_,_,_,_,_⟩) (by rfl) 70 (.tmp 6) (.tmp 12) (by rfl) w2.heap.size (Q05 y) (by rfl) (by rfl) Q08 (HzN.out w2) hyl hz4 hyo (Qba w2 _) (Nat.le_refl _) ?_;intro w3 h3 b3 _;have b13:=D00 b2 b3;have bb3:=D00 hbel b13))
  go_ret2
  exact MkP.nil bb3
 | true =>
  rw [if_pos rfl] at cl hpv
  subst hpv
  obtain ⟨L,hL⟩:∃ R,R=wyP T SB:=⟨_,rfl⟩
  obtain ⟨E,hE⟩:∃ R,R=rgE T:=⟨_,rfl⟩
  simp only [←hL,←hE] at cm ⊢
  unfold PnOwn at cl
  have Cl:=Qhd cl
  have Cm:=Qhd cm
  have C0:Hid (∀ u,Below w1.heap.size w1 u→Calls Tryz.prog 37 #[.slice (some ⟨w.heap.size,0,none⟩) 8 8] u fun e w'=>e=.returned (.agg (by8 SB).toArray)∧Below u.heap.size u w'):=Qhd c0
  have HSl:=Qhd hSl
  have hSl2:(by8 SB).length=32:=by rw [Q0p];exact hSl
  have HSo:=Qhd (u8_one SB)
  have s8:=fun off u=>sl8 w.heap.size off u
  clear cl c0 cm hR hSB hT hq hAC hw1 hn hN hk hs h hi hznew hL hE hA hSl ha
  go_enter Tryz.func16,Tryz.ntmps16
  go_upto_region 5 with (first
   |(go_at_call 57;rw [←HWe.out];(with_reducible refine Cl.out.mono ?_);rintro e w2 ⟨y,rfl,oy,ey,b2⟩;have hyl:=Q09 y;have hyo:=oy.is.one)
   |((with_reducible show wpList _ _ _ (⟨none,.store _ _ (.tmp 12),_,_,_,_⟩::_) _ _);refine Q00 (o:=⟨none,_,_,_,_,_⟩) (by rfl) 70 (.tmp 6) (.tmp 12) (by rfl) w2.heap.size (Q05 y) (by rfl) (by rfl) Q08 (HzN.out w2) hyl hz4 hyo (Qba w2 _) (Nat.le_refl _) ?_;intro w3 h3 b3 _;have b13:=D00 b2 b3;have iy:=oy.is.kept b3)
   |(go_at_call 37;(with_reducible refine (C0.out _ b13).mono ?_);rintro e w4 ⟨rfl,b4⟩;have n4:=D01 w4 30 zh;have b14:=D00 b13 b4;have h34:=h3.kept b4;have iy4:=iy.kept b4)
   |((with_reducible show wpList _ _ _ (⟨none,.store _ _ (.tmp 18),_,_,_,_⟩::_) _ _);refine Q00 (o:=⟨none,_,_,_,_,_⟩) (by rfl) 30 (.tmp 8) (.tmp 18) (by rfl) w4.heap.size (by8 SB) (by rfl) (by rfl) Q0i n4 hSl2 (by rfl) HSo.out (Qba w4 _) (Nat.le_refl _) ?_;intro w5 h5 b5 _))
  have b15:=D00 b14 b5
  have hbel5:=D00 hbel b15
  have iy5:=iy4.kept b5
  have S3:=Qhd (h34.kept b5).all0
  have hfk:Hid (∀ u,Below w5.heap.size w5 u→Bytes u (.slice (some ⟨w4.heap.size,0,none⟩) 32 32) SB):=Qhd fun u hu=>Q1v (h5.kept hu) HSl.out
  have s32:=fun off u=>sl32 w4.heap.size off u
  have cy:Hid (∀ u,Below w5.heap.size w5 u→Calls Tryz.prog 60 #[.agg (Q05 y).toArray,.slice (some ⟨w4.heap.size,0,none⟩) 32 32] u (MkP E L u)):=Qhd fun u hu=>Cm.out y ey _ _ u (iy5.kept hu) (hfk.out u hu)
  obtain ⟨Y,hY⟩:∃ Y,Y=Q05 y:=⟨_,rfl⟩
  rw [←hY] at hyl S3
  have Cy:Hid (∀ u,Below w5.heap.size w5 u→Calls Tryz.prog 60 #[.agg Y.toArray,.slice (some ⟨w4.heap.size,0,none⟩) 32 32] u (MkP E L u)):=by rw [hY];exact cy
  have Hyl:=Qhd hyl
  clear h3 h5 n4 b2 b3 b4 b5 b13 b14 b15 s8 hSl2 h34 iy iy4 iy5 oy cy ey hY hyo hyl hfk
  refine Q04 w5 7 (by kernel_rfl) (by kernel_rfl) (Below.refl _ _) ?_;simp only [List.take_succ_cons,List.take_zero,List.take_nil]
  (refine Q02 (by rfl) (fun K hK=>?_);rw [if_pos (by rfl)];refine ⟨_,fun u=>Q0b _ (.tmp 6) (by rfl) _ _ (by rfl) Q08 Hyl.out (rangeAt.ext S3.out u),hK _ ?_⟩;clear hK K;simp only [Act.put,List.setIfInBounds_toArray,List.set_cons_zero,List.set_cons_succ])
  (refine Q02 (by rfl) (fun K hK=>?_);go_simp;first|(refine hK _ ?_;clear hK K)|(apply Exists.intro;refine ⟨fun _=>?_,hK _ ?_⟩;fail;clear hK K))
  refine Q0a 21 (TxW E L) rfl (of_decide_eq_true rfl) (TxW.mono _ _) (fun w7 hw7=>?_) ?_
  ·simp only [relOf,List.filter_nil,Q01]
   refine ⟨rfl,?_⟩
   go_simp
   refine (Cy.out w7 hw7).mono ?_
   intro e w8 h8
   obtain ⟨v,rfl,hv,b8⟩:=MkP.tx h8
   exact ⟨_,rfl,hv,b8⟩
  refine Q0a 22 (TlxW L) rfl (of_decide_eq_true rfl) (TlxW.mono _) (fun w7 hw7=>?_) ?_
  ·change Q01 w7 [(21,_)] _ _
   rintro v ⟨va,vn,vc,ps,rfl,hv⟩
   simp only [Q01]
   refine ⟨rfl,?_⟩
   go_simp
   exact ⟨Below.refl _ _,_,_,_,_,rfl,hv⟩
  refine wpX_eq (.int .i64 E) (fun w7 hw7=>?_) ?_
  ·change Q01 w7 [(21,_)] _ _
   rintro v ⟨va,vn,vc,ps,rfl,hv⟩
   simp only [Q01]
   refine ⟨rfl,?_⟩
   go_simp
   exact Below.refl _ _
  refine Q0a 4 (TlxW L) rfl (of_decide_eq_true rfl) (TlxW.mono _) (fun w7 hw7=>?_) ?_
  ·change Q01 w7 [(22,_)] _ _
   rintro v ⟨va,vn,vc,ps,rfl,hv⟩
   simp only [Q01]
   refine ⟨rfl,?_⟩
   go_simp
   exact ⟨Below.refl _ _,_,_,_,_,rfl,hv⟩
  (refine Q02 (by rfl) (fun K hK=>?_);go_simp;first|(refine hK _ ?_;clear hK K)|(apply Exists.intro;refine ⟨fun _=>?_,hK _ ?_⟩;fail;clear hK K))
  refine Q0c ?_
  intro u2 hb2 v21 _ v22 _ v4 h4
  change Q01 u2 [] _ _
  simp only [Q01,List.drop_succ_cons,List.drop_zero,List.drop_nil]
  obtain ⟨va,vn,vc,ps,rfl,hv,hm⟩:=h4
  clear s32
  try simp only [Act.put,List.setIfInBounds_toArray,List.set_cons_zero,List.set_cons_succ]
  go_wp2_with fail
  go_ret2
  exact MkP.of hv hm (D00 hbel5 hb2)
theorem Qej (a:Option Addr)(n c:Nat)(H:List Hol)(hn:H.length=n)(hN:n≤1048576)(hk:∀ h∈H,h.a.Ok)(hs:∀ h∈H,h.a.s.length≤1048576∧h.a.c.length≤1048576)(A:List UInt8)(hA:A.length=8)(w:World)(h:RowOf hols 15 w (.slice a n c) H)(hi:∀ h∈H,h.a.In w) :
  Calls Tryz.prog 17 #[.slice a n c,.agg (by8 A).toArray] w (MkP (pvP H A).2 (pvP H A).1 w):=by
 obtain ⟨w1,hw1⟩:∃ w1,w1=w.alloc (.cells (by8 A).toArray 41):=⟨_,rfl⟩
 have ha:Blk 41 w1 w.heap.size (by8 A):=by rw [hw1];exact D01 w _ _
 have hbel:Below w.heap.size w w1:=by rw [hw1];exact Qba _ _
 have co:=Q4p a n c H hn hk w1 (h.below hbel) (fun p hp=>(hi p hp).below hbel)
 have cl:=fun u (hu:Below w1.heap.size w1 u)=>Q9z a n c H hn hN hk hs u ((h.below hbel).below hu) (fun p hp=>((hi p hp).below hbel).below hu)
 change ∀ u,Below w1.heap.size w1 u→Calls _ _ _ u (NdPost (trH H) u) at cl
 have hSl:(sumB A).length=32:=Q0o _
 have c0:=fun u (hu:Below w1.heap.size w1 u)=>Q3j (some ⟨w.heap.size,0,none⟩) 8 8 A hA u (Q5l (ha.kept hu) hA) (by omega)
 have cm:=fun (y:Nd) (hy:erN y=trH H) (a:Option Addr) (c:Nat) u (hI:IsNd u y) hB=>Qhk hy (Q7z (by omega) hy) a c hSl u hI hB
 have hpv:pvP H A=if rightB H=true then (wyP (trH H) (sumB A),rgE (trH H)) else ([],1):=rfl
 obtain ⟨R,hR⟩:∃ R,R=pvP H A:=⟨_,rfl⟩
 obtain ⟨SB,hSB⟩:∃ B,B=sumB A:=⟨_,rfl⟩
 obtain ⟨T,hT⟩:∃ T,T=trH H:=⟨_,rfl⟩
 obtain ⟨q,hq⟩:∃ q,q=rightB H:=⟨_,rfl⟩
 simp only [←hR,←hSB,←hT,←hq] at co cl c0 cm hpv hSl ⊢
 obtain ⟨AC,hAC⟩:∃ C,C=by8 A:=⟨_,rfl⟩
 rw [←hAC] at hw1 ⊢
 have HWe:=Qhd hw1
 have Co:=Qhd co
 cases q with
 | false =>
  rw [if_neg (by simp)] at hpv
  subst hpv
  clear co cl c0 cm hR hSB hT hq hAC hw1 hn hN hk hs h hi hSl hA ha
  go_enter Tryz.func17,Tryz.ntmps17
  go_wp2_with (go_at_call 58;rw [←HWe.out];(with_reducible refine Co.out.mono ?_);rintro e w2 ⟨rfl,b2⟩;have bb3:=D00 hbel b2)
  go_ret2
  exact MkP.nil bb3
 | true =>
  rw [if_pos rfl] at hpv
  subst hpv
  obtain ⟨L,hL⟩:∃ R,R=wyP T SB:=⟨_,rfl⟩
  obtain ⟨E,hE⟩:∃ R,R=rgE T:=⟨_,rfl⟩
  simp only [←hL,←hE] at cm ⊢
  unfold NdPost at cl
  have Cl:=Qhd cl
  have Cm:=Qhd cm
  have C0:=Qhd c0
  have HSl:=Qhd hSl
  have s8:=fun off u=>sl8 w.heap.size off u
  clear co cl c0 cm hR hSB hT hq hAC hw1 hn hN hk hs h hi hL hE hA hSl ha
  go_enter Tryz.func17,Tryz.ntmps17
  go_upto_region 3 with (go_at_call 58;rw [←HWe.out];(with_reducible refine Co.out.mono ?_);rintro e w2 ⟨rfl,b2⟩;have bb2:=D00 hbel b2)
  clear Co
  refine Q04 w2 9 (by kernel_rfl) (by kernel_rfl) (Below.refl _ _) ?_;simp only [List.take_succ_cons,List.take_zero,List.take_nil]
  (refine Q02 (by rfl) (fun K hK=>?_);go_simp;first|(refine hK _ ?_;clear hK K)|(apply Exists.intro;refine ⟨fun _=>?_,hK _ ?_⟩;fail;clear hK K))
  refine Q0a 10 (NdW T) rfl (of_decide_eq_true rfl) (NdW.mono _) (fun w7 hw7=>?_) ?_
  ·simp only [relOf,List.filter_nil,Q01]
   refine ⟨rfl,?_⟩
   go_simp
   refine (Cl.out w7 (D00 b2 hw7)).mono ?_
   rintro e w8 ⟨y,rfl,oy,ey,b8⟩
   exact ⟨_,rfl,⟨y,rfl,oy.is,ey⟩,b8⟩
  (refine Q02 (by rfl) (fun K hK=>?_);go_simp;first|(refine hK _ ?_;clear hK K)|(apply Exists.intro;refine ⟨fun _=>?_,hK _ ?_⟩;fail;clear hK K))
  refine Q0a 12 (FrT 0 SB) rfl (of_decide_eq_true rfl) (FrT.mono _ _) (fun w7 hw7=>?_) ?_
  ·simp only [relOf,List.filter_nil,List.filter_cons,Q01]
   try simp only [Q01]
   refine ⟨rfl,?_⟩
   go_simp
   refine (C0.out w7 (D00 b2 hw7)).mono ?_
   rintro e w8 ⟨v,rfl,o8,b8⟩
   exact ⟨v,rfl,o8.lower (Nat.zero_le _),b8⟩
  refine Q0a 13 (TxW E L) rfl (of_decide_eq_true rfl) (TxW.mono _ _) (fun w7 hw7=>?_) ?_
  ·change Q01 w7 [(12,_),(10,_)] _ _
   intro v12 h12 v10 h10
   obtain ⟨ka,kc,rfl,_⟩:=h12.1.form' 32 HSl.out
   obtain ⟨y,rfl,iy,ey⟩:=h10
   simp only [Q01]
   refine ⟨rfl,?_⟩
   go_simp
   refine (Cm.out y ey _ _ w7 iy h12.1).mono ?_
   intro e w8 h8
   obtain ⟨v,rfl,hv,b8⟩:=MkP.tx h8
   exact ⟨_,rfl,hv,b8⟩
  refine Q0a 14 (TlxW L) rfl (of_decide_eq_true rfl) (TlxW.mono _) (fun w7 hw7=>?_) ?_
  ·change Q01 w7 [(13,_)] _ _
   rintro v ⟨va,vn,vc,ps,rfl,hv⟩
   simp only [Q01]
   refine ⟨rfl,?_⟩
   go_simp
   exact ⟨Below.refl _ _,_,_,_,_,rfl,hv⟩
  refine wpX_eq (.int .i64 E) (fun w7 hw7=>?_) ?_
  ·change Q01 w7 [(13,_)] _ _
   rintro v ⟨va,vn,vc,ps,rfl,hv⟩
   simp only [Q01]
   refine ⟨rfl,?_⟩
   go_simp
   exact Below.refl _ _
  refine Q0a 4 (TlxW L) rfl (of_decide_eq_true rfl) (TlxW.mono _) (fun w7 hw7=>?_) ?_
  ·change Q01 w7 [(14,_)] _ _
   rintro v ⟨va,vn,vc,ps,rfl,hv⟩
   simp only [Q01]
   refine ⟨rfl,?_⟩
   go_simp
   exact ⟨Below.refl _ _,_,_,_,_,rfl,hv⟩
  (refine Q02 (by rfl) (fun K hK=>?_);go_simp;first|(refine hK _ ?_;clear hK K)|(apply Exists.intro;refine ⟨fun _=>?_,hK _ ?_⟩;fail;clear hK K))
  refine Q0c ?_
  intro u2 hb2 v10 _ v12 _ v13 _ v14 _ v4 h4
  change Q01 u2 [] _ _
  simp only [Q01,List.drop_succ_cons,List.drop_zero,List.drop_nil]
  obtain ⟨va,vn,vc,ps,rfl,hv,hm⟩:=h4
  clear s8
  try simp only [Act.put,List.setIfInBounds_toArray,List.set_cons_zero,List.set_cons_succ]
  go_wp2_with fail
  go_ret2
  exact MkP.of hv hm (D00 bb2 hb2)
end Go.Proofs.YtbdmkfjgnjfjbaaGreat
