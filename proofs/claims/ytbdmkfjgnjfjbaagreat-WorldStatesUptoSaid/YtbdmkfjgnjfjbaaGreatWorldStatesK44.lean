/- world.ProveSlot, the reference's OProveSlot. | The reference's OProveSlot. | How an account, a slice of holders, an address that come in are read; their bulks. -/
import Derived.Test.YtbdmkfjgnjfjbaaGreatWorldStatesK42
import Derived.Test.YtbdmkfjgnjfjbaaGreatWorldStatesK43
import Derived.Test.YtbdmkfjgnjfjbaaGreatWorldStatesK32
import Derived.Test.YtbdmkfjgnjfjbaaGreatWorldStatesK30
import Derived.OpenShut
set_option linter.unusedSimpArgs false
set_option linter.unusedVariables false
set_option maxHeartbeats 4000000
set_option maxRecDepth 100000
open List (drop_nil filter_nil map_map set_cons_succ set_cons_zero take_nil)
namespace Go.Proofs.YtbdmkfjgnjfjbaaGreat
open Go.RowKit
theorem Qff {S:List (Nat × Nat)}(hN:S.length≤1048576){t:Nd}(ht:erN t=trS S):BgN t:=Q5k (sKV S) (by simpa [sKV] using hN) ht
def psV (S:List (Nat × Nat))(E:Nat)(SB:List UInt8):List (List UInt8) × Int:=if E=0 then (wyP (trS S) SB,rgE (trS S)) else ([],(E:Int))
def PsPost (H:List Hol)(t:Nat)(SB:List UInt8)(w:World)(e:Ending)(w':World):Prop:=∃ V E,GetR H t V E∧MkP (psV V.2.2.2 E SB).2 (psV V.2.2.2 E SB).1 w e w'
theorem GetR.slots {H:List Hol}{t:Nat}{V:Nat × Nat × List UInt8 × List (Nat × Nat)}{E:Nat}(h:GetR H t V E)(hs:∀ h∈H,h.a.s.length≤1048576∧h.a.c.length≤1048576):V.2.2.2.length≤1048576:=by
 rcases h with ⟨_,_,rfl⟩|⟨_,_,⟨i,hi,_,rfl⟩|⟨_,rfl⟩⟩
 ·show ([]:List (Nat × Nat)).length≤_;simp
 ·exact (hs _ (List.getElem_mem hi)).1
 ·show ([]:List (Nat × Nat)).length≤_;simp
theorem Q8d (a:Option Addr)(n c:Nat)(H:List Hol)(hn:H.length=n)(hN:n≤1048576)(hk:∀ h∈H,h.a.Ok)(hs:∀ h∈H,h.a.s.length≤1048576∧h.a.c.length≤1048576)(A:List UInt8)(hA:A.length=8)(K:Nat)(w:World)(h:RowOf hols 15 w (.slice a n c) H)(hi:∀ h∈H,h.a.In w) :
  Calls Tryz.prog 18 #[.slice a n c,.agg (by8 A).toArray,.agg (wcs K).toArray] w (PsPost H (numL A) (sumB (wb K)) w):=by
 obtain ⟨w1,hw1⟩:∃ w1,w1=(w.alloc (.cells (by8 A).toArray 41)).alloc (.cells (wcs K).toArray 24):=⟨_,rfl⟩
 have ha:Blk 41 w1 w.heap.size (by8 A):=by rw [hw1];exact (D01 w _ _).alloc _
 have hkw:Blk 24 w1 (w.heap.size+1) (wcs K):=by
  have:=D01 (w.alloc (.cells (by8 A).toArray 41)) 24 (wcs K)
  simp only [World.size_alloc] at this
  rw [hw1];exact this
 have hbel:Below w.heap.size w w1:=by rw [hw1];exact (Qba _ _).alloc (by simp) _
 have cg:=Qin a n c H hn hk (fun h hh=>⟨by have:=(hs h hh).2;omega,by have:=(hs h hh).1;omega⟩) A hA (by omega) w1 (h.below hbel) (fun p hp=>(hi p hp).below hbel)
 have hKl:(wb K).length=32:=wb_len K
 have hSl:(sumB (wb K)).length=32:=Q0o _
 have c0:∀ u:World,Calls Tryz.prog 64 #[.agg (wcs K).toArray] u fun e w'=>e=.returned (.agg (by8 (wb K)).toArray)∧Below u.heap.size u w':=fun u=>Q6r K u
 have c00:∀ (g:Nat) (u:World),Blk 30 u g (by8 (wb K))→Calls Tryz.prog 37 #[.slice (some ⟨g,0,none⟩) 32 32] u fun e w'=>e=.returned (.agg (by8 (sumB (wb K))).toArray)∧Below u.heap.size u w':=fun g u hu=>Q3t (some ⟨g,0,none⟩) 32 32 (wb K) hKl u (Q1v hu hKl)
 have ct:=fun (a:Option Addr) (n c:Nat) (S:List (Nat × Nat)) (hn:S.length=n) (hN:n≤1048576) u hr=>Q4z a n c S hn hN u hr
 have cm:=fun (S:List (Nat × Nat)) (hS:S.length≤1048576) (y:Nd) (hy:erN y=trS S) (a:Option Addr) (c:Nat) u (hI:IsNd u y) hB=>make_T hy (Qff hS hy) a c hSl u hI hB
 have hgs:=fun V E (hg:GetR H (numL A) V E)=>GetR.slots hg hs
 unfold PsPost
 obtain ⟨G,hG⟩:∃ G,G=GetR H (numL A):=⟨_,rfl⟩
 unfold Q99 at cg
 obtain ⟨SB,hSB⟩:∃ B,B=sumB (wb K):=⟨_,rfl⟩
 obtain ⟨KB,hKB⟩:∃ B,B=wb K:=⟨_,rfl⟩
 simp only [←hG,←hSB] at cg cm c00 hgs hSl ⊢
 simp only [←hKB] at c0 c00 hKl
 have hAl:(by8 A).length=8:=by rw [Q0p];exact hA
 have hWl:=Q12 K
 obtain ⟨AC,hAC⟩:∃ C,C=by8 A:=⟨_,rfl⟩
 obtain ⟨WC,hWC⟩:∃ C,C=wcs K:=⟨_,rfl⟩
 rw [←hAC] at ha hAl
 rw [←hWC] at hkw hWl
 rw [←hAC,←hWC] at hw1
 simp only [←hAC] at cg
 simp only [←hWC] at c0
 rw [←hAC,←hWC]
 have HWe:=Qhd hw1
 have Cg:=Qhd cg
 have C0:=Qhd c0
 have C00:=Qhd c00
 have Ct:=Qhd ct
 have Cm:=Qhd cm
 have Hgs:=Qhd hgs
 have HSl:=Qhd hSl
 have HKl:=Qhd hKl
 have HAl:=Qhd hAl
 have HWl:=Qhd hWl
 have a1:=ha.all0
 have hSl2:(by8 SB).length=32:=by rw [Q0p];exact HSl.out
 have HSo:=Qhd (u8_one SB)
 have hKl2:(by8 KB).length=32:=by rw [Q0p];exact HKl.out
 have HKo:=Qhd (u8_one KB)
 have hz7l:z7.length=7:=rfl
 have hznew:∀ u:World,Blk 28 (u.alloc (.cells #[.int .u64 0,.int .u64 0,.int .u64 0,.int .u64 0,.int .u64 0,.slice none 0 0,.slice none 0 0] 28)) u.heap.size z7:=fun u=>D01 u _ z7
 have Hz7:=Qhd hznew
 clear hw1 cg c0 c00 ct cm hgs hG hSB hKB hAC hWC hSl hKl hAl hWl hn hN hk hs h hi hA hznew ha
 go_enter Tryz.func18,Tryz.ntmps18
 go_upto_region 2 with (first
  |(rw [←HWe.out])
  |((with_reducible show wpList _ _ _ (⟨some 14,_,_,_,_,_⟩::_) _ _);refine Q03 (o:=⟨some 14,_,_,_,_,_⟩) 41 (.tmp 4) (by rfl) w.heap.size 0 (by rfl) Q10 HAl.out a1 (by rfl) ?_)
  |(go_at_call 63;(with_reducible refine Cg.out.mono ?_);rintro e w2 ⟨B,E,rfl,hG,hIn,b2⟩;have hBl:(accs B).length=7:=rfl;have hBo:=Q5m hIn)
  |((with_reducible show wpList _ _ _ (⟨none,.store _ _ (.tmp 16),_,_,_,_⟩::_) _ _);refine Q00 (o:=⟨none,_,_,_,_,_⟩) (by rfl) 28 (.tmp 8) (.tmp 16) (by rfl) w2.heap.size (accs B) (by rfl) (by rfl) aggAcc (Hz7.out w2) hBl hz7l hBo (Qba w2 _) (Nat.le_refl _) ?_;intro w3 h3 b3 _))
 have b13:=D00 b2 b3
 have hbel3:=D00 hbel b13
 have hIn3:=hIn.below b3
 obtain ⟨ca,cc,sa,sc,hcv,hsv⟩:=Q15 hIn3
 have hsl:B.s.length≤1048576:=Hgs.out _ _ hG
 obtain ⟨sn,hsn⟩:∃ s,s=B.s.length:=⟨_,rfl⟩
 have hrow:RowOf spc 8 w3 (.slice sa sn sc) B.s:=by have:=hIn3.2;rw [hsv,←hsn] at this;exact this
 have d6:w3.cell? ⟨w2.heap.size,6,none⟩=some (.slice sa sn sc):=by rw [hsn,←hsv];exact h3.cell 6
 have hkw3:=hkw.kept b13
 have r3:=hkw3.all0
 obtain ⟨Q,hQ⟩:∃ Q:List (Nat × Nat),Q=B.s:=⟨_,rfl⟩
 rw [←hQ] at hsl hsn hrow
 have HG:Hid (∃ V,G V E∧V.2.2.2=Q):=Qhd ⟨_,hG,hQ.symm⟩
 have Ct':Hid (∀ u,Below w3.heap.size w3 u→Calls Tryz.prog 36 #[.slice sa sn sc] u (NdPost (trS Q) u)):=Qhd fun u hu=>Ct.out sa sn sc Q hsn.symm (by rw [hsn];exact hsl) u (hrow.below hu)
 have Cm':=Qhd (Cm.out Q hsl)
 obtain ⟨T,hT⟩:∃ T,T=trS Q:=⟨_,rfl⟩
 rw [←hT] at Ct' Cm'
 have HT:=Qhd hT
 clear Ct Cm Hgs hcv hsv hIn3 hIn hBo hBl hrow hsl hsn hG hQ hT Cg Hz7 HAl a1 b2 b3 hz7l hkw h3
 by_cases hE:E=0
 ·subst hE
  obtain ⟨L,hL⟩:∃ R,R=wyP T SB:=⟨_,rfl⟩
  obtain ⟨F,hF⟩:∃ R,R=rgE T:=⟨_,rfl⟩
  have HL:Hid (psV Q 0 SB=(L,F)):=Qhd (by rw [hL,hF,HT.out];rfl)
  rw [←hL,←hF] at Cm'
  clear hL hF HT
  go_upto_region 6 with (first
   |((with_reducible show wpList _ _ _ (⟨some 21,_,_,_,_,_⟩::_) _ _);refine Q03 (o:=⟨some 21,_,_,_,_,_⟩) 24 (.tmp 5) (by rfl) (w.heap.size+1) 0 (by rfl) Q0j HWl.out r3 (by rfl) ?_)
   |(go_at_call 64;(with_reducible refine (C0.out _).mono ?_);rintro e w4 ⟨rfl,b4⟩;have n4:=D01 w4 30 zh)
   |((with_reducible show wpList _ _ _ (⟨none,.store _ _ (.tmp 22),_,_,_,_⟩::_) _ _);refine Q00 (o:=⟨none,_,_,_,_,_⟩) (by rfl) 30 (.tmp 10) (.tmp 22) (by rfl) w4.heap.size (by8 KB) (by rfl) (by rfl) Q0i n4 hKl2 (by rfl) HKo.out (Qba w4 _) (Nat.le_refl _) ?_;intro w5 h5 b5 _;have s5:=sl32 w4.heap.size 0 w5;have b35:=D00 b4 b5)
   |(go_at_call 37;(with_reducible refine (C00.out _ _ h5).mono ?_);rintro e w6 ⟨rfl,b6⟩;have n6:=D01 w6 30 zh)
   |((with_reducible show wpList _ _ _ (⟨none,.store _ _ (.tmp 24),_,_,_,_⟩::_) _ _);refine Q00 (o:=⟨none,_,_,_,_,_⟩) (by rfl) 30 (.tmp 11) (.tmp 24) (by rfl) w6.heap.size (by8 SB) (by rfl) (by rfl) Q0i n6 hSl2 (by rfl) HSo.out (Qba w6 _) (Nat.le_refl _) ?_;intro w7 h7 b7 _))
  have b37:=D00 b35 (D00 b6 b7)
  have hbel7:=D00 hbel3 b37
  have hfk:Hid (∀ u,Below w7.heap.size w7 u→Bytes u (.slice (some ⟨w6.heap.size,0,none⟩) 32 32) SB):=Qhd fun u hu=>Q1v (h7.kept hu) HSl.out
  have d67:w7.cell? ⟨w2.heap.size,6,none⟩=some (.slice sa sn sc):=(b37.cell (World.block_lt_of_cell? w3 _ d6)).trans d6
  have k6:=fun u:Ext w7=>u.cell d67
  have s32:=fun off u=>sl32 w6.heap.size off u
  clear h5 h7 n4 n6 s5 b4 b5 b6 b7 b35 hSl2 hKl2 d6 r3 hkw3
  refine Q04 w7 9 (by kernel_rfl) (by kernel_rfl) (Below.refl _ _) ?_;simp only [List.take_succ_cons,List.take_zero,take_nil]
  iterate 2 (refine Q02 (by rfl) (fun K hK=>?_);go_simp;first|(refine hK _ ?_;clear hK K)|(apply Exists.intro;refine ⟨fun _=>?_,hK _ ?_⟩;fail;clear hK K))
  refine Q0a 27 (NdW T) rfl (of_decide_eq_true rfl) (NdW.mono _) (fun w8 hw8=>?_) ?_
  ·simp only [relOf,filter_nil,Q01]
   refine ⟨rfl,?_⟩
   go_simp
   refine (Ct'.out w8 (D00 b37 hw8)).mono ?_
   rintro e w9 ⟨y,rfl,oy,ey,b9⟩
   exact ⟨_,rfl,⟨y,rfl,oy.is,ey⟩,b9⟩
  (refine Q02 (by rfl) (fun K hK=>?_);go_simp;first|(refine hK _ ?_;clear hK K)|(apply Exists.intro;refine ⟨fun _=>?_,hK _ ?_⟩;fail;clear hK K))
  refine Q0a 29 (TxW F L) rfl (of_decide_eq_true rfl) (TxW.mono _ _) (fun w8 hw8=>?_) ?_
  ·change Q01 w8 [(27,_)] _ _
   rintro v ⟨y,rfl,iy,ey⟩
   simp only [Q01]
   refine ⟨rfl,?_⟩
   go_simp
   refine (Cm'.out y ey _ _ w8 iy (hfk.out w8 hw8)).mono ?_
   intro e w9 h9
   obtain ⟨v,rfl,hv,b9⟩:=MkP.tx h9
   exact ⟨_,rfl,hv,b9⟩
  refine Q0a 30 (TlxW L) rfl (of_decide_eq_true rfl) (TlxW.mono _) (fun w8 hw8=>?_) ?_
  ·change Q01 w8 [(29,_)] _ _
   rintro v ⟨va,vn,vc,ps,rfl,hv⟩
   simp only [Q01]
   refine ⟨rfl,?_⟩
   go_simp
   exact ⟨Below.refl _ _,_,_,_,_,rfl,hv⟩
  refine wpX_eq (.int .i64 F) (fun w8 hw8=>?_) ?_
  ·change Q01 w8 [(29,_)] _ _
   rintro v ⟨va,vn,vc,ps,rfl,hv⟩
   simp only [Q01]
   refine ⟨rfl,?_⟩
   go_simp
   exact Below.refl _ _
  refine Q0a 6 (TlxW L) rfl (of_decide_eq_true rfl) (TlxW.mono _) (fun w8 hw8=>?_) ?_
  ·change Q01 w8 [(30,_)] _ _
   rintro v ⟨va,vn,vc,ps,rfl,hv⟩
   simp only [Q01]
   refine ⟨rfl,?_⟩
   go_simp
   exact ⟨Below.refl _ _,_,_,_,_,rfl,hv⟩
  (refine Q02 (by rfl) (fun K hK=>?_);go_simp;first|(refine hK _ ?_;clear hK K)|(apply Exists.intro;refine ⟨fun _=>?_,hK _ ?_⟩;fail;clear hK K))
  refine Q0c ?_
  intro u2 hb2 v27 _ v29 _ v30 _ v6 h6
  change Q01 u2 [] _ _
  simp only [Q01,List.drop_succ_cons,List.drop_zero,drop_nil]
  obtain ⟨va,vn,vc,ps,rfl,hv,hm⟩:=h6
  clear s32 k6
  try simp only [Act.put,List.setIfInBounds_toArray,set_cons_zero,set_cons_succ]
  go_wp2_with fail
  go_ret2
  obtain ⟨V,hV,hVQ⟩:=HG.out
  exact ⟨V,0,hV,by rw [hVQ,HL.out];exact MkP.of hv hm (D00 hbel7 hb2)⟩
 ·have hEi:((E:Int)==0)=false:=beq_eq_false_iff_ne.2 (by omega)
  have HL:Hid (psV Q E SB=([],(E:Int))):=Qhd (by unfold psV;rw [if_neg hE])
  clear hE
  go_wp2_with fail
  go_ret2
  obtain ⟨V,hV,hVQ⟩:=HG.out
  exact ⟨V,E,hV,by rw [hVQ,HL.out];exact MkP.nil hbel3⟩
theorem Q71 (a:Option Addr)(n c:Nat)(H:List Hol)(hn:H.length=n)(hN:n≤1048576)(hk:∀ h∈H,h.a.Ok)(hs:∀ h∈H,h.a.s.length≤1048576∧h.a.c.length≤1048576)(A:List UInt8)(hA:A.length=8)(K:Nat)(w:World)(h:RowOf hols 15 w (.slice a n c) H)(hi:∀ h∈H,h.a.In w) :
  Calls Tryz.prog 19 #[.slice a n c,.agg (by8 A).toArray,.agg (wcs K).toArray] w (PsPost H (numL A) (sumB (wb K)) w):=by
 obtain ⟨w1,hw1⟩:∃ w1,w1=(w.alloc (.cells (by8 A).toArray 41)).alloc (.cells (wcs K).toArray 24):=⟨_,rfl⟩
 have ha:Blk 41 w1 w.heap.size (by8 A):=by rw [hw1];exact (D01 w _ _).alloc _
 have hkw:Blk 24 w1 (w.heap.size+1) (wcs K):=by
  have:=D01 (w.alloc (.cells (by8 A).toArray 41)) 24 (wcs K)
  simp only [World.size_alloc] at this
  rw [hw1];exact this
 have hbel:Below w.heap.size w w1:=by rw [hw1];exact (Qba _ _).alloc (by simp) _
 have cg:=Qji a n c H hn hk A hA w1 (h.below hbel) (fun p hp=>(hi p hp).below hbel)
 have hKl:(wb K).length=32:=wb_len K
 have hSl:(sumB (wb K)).length=32:=Q0o _
 have c0:∀ u:World,Calls Tryz.prog 66 #[.agg (wcs K).toArray] u _:=fun u=>Q1t K u
 have c00:=fun (a:Option Addr) (c:Nat) (u:World) (hu:Bytes u (.slice a 32 c) (wb K))=>Q3j a 32 c (wb K) hKl u hu (by omega)
 have ct:=fun (B:Acc) (hB:B.s.length≤1048576) u (hI:B.In u)=>Q7a B hB u hI
 have cm:=fun (S:List (Nat × Nat)) (hS:S.length≤1048576) (y:Nd) (hy:erN y=trS S) (a:Option Addr) (c:Nat) u (hI:IsNd u y) hB=>Qhk hy (Qff hS hy) a c hSl u hI hB
 have hgs:=fun V E (hg:GetR H (numL A) V E)=>GetR.slots hg hs
 unfold PsPost
 obtain ⟨G,hG⟩:∃ G,G=GetR H (numL A):=⟨_,rfl⟩
 unfold Q99 at cg
 obtain ⟨SB,hSB⟩:∃ B,B=sumB (wb K):=⟨_,rfl⟩
 obtain ⟨KB,hKB⟩:∃ B,B=wb K:=⟨_,rfl⟩
 simp only [←hG,←hSB] at cg cm c00 hgs hSl ⊢
 simp only [←hKB] at c0 c00 hKl
 have hAl:(by8 A).length=8:=by rw [Q0p];exact hA
 have hWl:=Q12 K
 obtain ⟨AC,hAC⟩:∃ C,C=by8 A:=⟨_,rfl⟩
 obtain ⟨WC,hWC⟩:∃ C,C=wcs K:=⟨_,rfl⟩
 rw [←hAC] at ha hAl
 rw [←hWC] at hkw hWl
 rw [←hAC,←hWC] at hw1
 simp only [←hAC] at cg
 simp only [←hWC] at c0
 rw [←hAC,←hWC]
 have HWe:=Qhd hw1
 have Cg:=Qhd cg
 have C0:=Qhd c0
 have C00:=Qhd c00
 have Ct:=Qhd ct
 have Cm:=Qhd cm
 have Hgs:=Qhd hgs
 have HSl:=Qhd hSl
 have HKl:=Qhd hKl
 have HAl:=Qhd hAl
 have HWl:=Qhd hWl
 have a1:=ha.all0
 have hz7l:z7.length=7:=rfl
 have hznew:∀ u:World,Blk 28 (u.alloc (.cells #[.int .u64 0,.int .u64 0,.int .u64 0,.int .u64 0,.int .u64 0,.slice none 0 0,.slice none 0 0] 28)) u.heap.size z7:=fun u=>D01 u _ z7
 have Hz7:=Qhd hznew
 clear hw1 cg c0 c00 ct cm hgs hG hSB hKB hAC hWC hSl hKl hAl hWl hn hN hk hs h hi hA hznew ha
 go_enter Tryz.func19,Tryz.ntmps19
 go_upto_region 2 with (first
  |(rw [←HWe.out])
  |((with_reducible show wpList _ _ _ (⟨some 12,_,_,_,_,_⟩::_) _ _);refine Q03 (o:=⟨some 12,_,_,_,_,_⟩) 41 (.tmp 4) (by rfl) w.heap.size 0 (by rfl) Q10 HAl.out a1 (by rfl) ?_)
  |(go_at_call 65;(with_reducible refine Cg.out.mono ?_);rintro e w2 ⟨B,E,rfl,hG,hIn,b2⟩;have hBl:(accs B).length=7:=rfl;have hBo:=Q5m hIn)
  |((with_reducible show wpList _ _ _ (⟨none,.store _ _ (.tmp 14),_,_,_,_⟩::_) _ _);refine Q00 (o:=⟨none,_,_,_,_,_⟩) (by rfl) 28 (.tmp 8) (.tmp 14) (by rfl) w2.heap.size (accs B) (by rfl) (by rfl) aggAcc (Hz7.out w2) hBl hz7l hBo (Qba w2 _) (Nat.le_refl _) ?_;intro w3 h3 b3 _))
 have b13:=D00 b2 b3
 have hbel3:=D00 hbel b13
 have hIn3:=hIn.below b3
 have hsl:B.s.length≤1048576:=Hgs.out _ _ hG
 have S3:=Qhd h3.all0
 have R3:=Qhd (hkw.kept b13).all0
 obtain ⟨Q,hQ⟩:∃ Q:List (Nat × Nat),Q=B.s:=⟨_,rfl⟩
 have HG:Hid (∃ V,G V E∧V.2.2.2=Q):=Qhd ⟨_,hG,hQ.symm⟩
 have ct':∀ u,Below w3.heap.size w3 u→Calls Tryz.prog 40 #[.agg (accs B).toArray] u (NdPost (trS Q) u):=fun u hu=>by rw [hQ];exact Ct.out B hsl u (hIn3.below hu)
 rw [←hQ] at hsl
 have Cm':=Qhd (Cm.out Q hsl)
 obtain ⟨T,hT⟩:∃ T,T=trS Q:=⟨_,rfl⟩
 rw [←hT] at Cm'
 simp only [←hT] at ct'
 have HT:=Qhd hT
 obtain ⟨BC,hBC⟩:∃ C,C=accs B:=⟨_,rfl⟩
 rw [←hBC] at S3 hBl
 simp only [←hBC] at ct'
 have Ct':=Qhd ct'
 have HBl:=Qhd hBl
 clear Ct Cm Hgs hIn3 hIn hBo hsl hG hQ hT Cg Hz7 HAl a1 b2 b3 hz7l hkw h3 ct' hBC hBl
 by_cases hE:E=0
 ·subst hE
  obtain ⟨L,hL⟩:∃ R,R=wyP T SB:=⟨_,rfl⟩
  obtain ⟨F,hF⟩:∃ R,R=rgE T:=⟨_,rfl⟩
  have HL:Hid (psV Q 0 SB=(L,F)):=Qhd (by rw [hL,hF,HT.out];rfl)
  rw [←hL,←hF] at Cm'
  clear hL hF HT
  go_upto_region 4 with fail
  refine Q04 w3 10 (by kernel_rfl) (by kernel_rfl) (Below.refl _ _) ?_;simp only [List.take_succ_cons,List.take_zero,take_nil]
  (refine Q02 (by rfl) (fun K hK=>?_);rw [if_pos (by rfl)];refine ⟨_,fun u=>Q0b _ (.tmp 8) (by rfl) _ _ (by rfl) aggAcc HBl.out (rangeAt.ext S3.out u),hK _ ?_⟩;clear hK K;simp only [Act.put,List.setIfInBounds_toArray,set_cons_zero,set_cons_succ])
  refine Q0a 20 (NdW T) rfl (of_decide_eq_true rfl) (NdW.mono _) (fun w8 hw8=>?_) ?_
  ·simp only [relOf,filter_nil,Q01]
   refine ⟨rfl,?_⟩
   go_simp
   refine (Ct'.out w8 hw8).mono ?_
   rintro e w9 ⟨y,rfl,oy,ey,b9⟩
   exact ⟨_,rfl,⟨y,rfl,oy.is,ey⟩,b9⟩
  (refine Q02 (by rfl) (fun K hK=>?_);rw [if_pos (by rfl)];refine ⟨_,fun u=>Q0b _ (.tmp 5) (by rfl) _ _ (by rfl) Q0j HWl.out (rangeAt.ext R3.out u),hK _ ?_⟩;clear hK K;simp only [Act.put,List.setIfInBounds_toArray,set_cons_zero,set_cons_succ])
  refine Q0a 22 (FrT 0 KB) rfl (of_decide_eq_true rfl) (FrT.mono _ _) (fun w8 hw8=>?_) ?_
  ·simp only [relOf,filter_nil,List.filter_cons,Q01]
   try simp only [Q01]
   refine ⟨rfl,?_⟩
   go_simp
   refine (C0.out w8).mono ?_
   rintro e w9 ⟨v,rfl,o9,b9⟩
   exact ⟨v,rfl,(FrT.own o9).lower (Nat.zero_le _),b9⟩
  refine Q0a 23 (FrT 0 SB) rfl (of_decide_eq_true rfl) (FrT.mono _ _) (fun w8 hw8=>?_) ?_
  ·change Q01 w8 [(22,_)] _ _
   intro v22 h22
   obtain ⟨ka,kc,rfl,_⟩:=h22.1.form' 32 HKl.out
   simp only [Q01]
   refine ⟨rfl,?_⟩
   go_simp
   refine (C00.out _ _ w8 h22.1).mono ?_
   rintro e w9 ⟨v,rfl,o9,b9⟩
   exact ⟨v,rfl,o9.lower (Nat.zero_le _),b9⟩
  refine Q0a 24 (TxW F L) rfl (of_decide_eq_true rfl) (TxW.mono _ _) (fun w8 hw8=>?_) ?_
  ·change Q01 w8 [(23,_),(20,_)] _ _
   intro v23 h23 v20 h20
   obtain ⟨ka,kc,rfl,_⟩:=h23.1.form' 32 HSl.out
   obtain ⟨y,rfl,iy,ey⟩:=h20
   simp only [Q01]
   refine ⟨rfl,?_⟩
   go_simp
   refine (Cm'.out y ey _ _ w8 iy h23.1).mono ?_
   intro e w9 h9
   obtain ⟨v,rfl,hv,b9⟩:=MkP.tx h9
   exact ⟨_,rfl,hv,b9⟩
  refine Q0a 25 (TlxW L) rfl (of_decide_eq_true rfl) (TlxW.mono _) (fun w8 hw8=>?_) ?_
  ·change Q01 w8 [(24,_)] _ _
   rintro v ⟨va,vn,vc,ps,rfl,hv⟩
   simp only [Q01]
   refine ⟨rfl,?_⟩
   go_simp
   exact ⟨Below.refl _ _,_,_,_,_,rfl,hv⟩
  refine wpX_eq (.int .i64 F) (fun w8 hw8=>?_) ?_
  ·change Q01 w8 [(24,_)] _ _
   rintro v ⟨va,vn,vc,ps,rfl,hv⟩
   simp only [Q01]
   refine ⟨rfl,?_⟩
   go_simp
   exact Below.refl _ _
  refine Q0a 6 (TlxW L) rfl (of_decide_eq_true rfl) (TlxW.mono _) (fun w8 hw8=>?_) ?_
  ·change Q01 w8 [(25,_)] _ _
   rintro v ⟨va,vn,vc,ps,rfl,hv⟩
   simp only [Q01]
   refine ⟨rfl,?_⟩
   go_simp
   exact ⟨Below.refl _ _,_,_,_,_,rfl,hv⟩
  (refine Q02 (by rfl) (fun K hK=>?_);go_simp;first|(refine hK _ ?_;clear hK K)|(apply Exists.intro;refine ⟨fun _=>?_,hK _ ?_⟩;fail;clear hK K))
  refine Q0c ?_
  intro u2 hb2 v20 _ v22 _ v23 _ v24 _ v25 _ v6 h6
  change Q01 u2 [] _ _
  simp only [Q01,List.drop_succ_cons,List.drop_zero,drop_nil]
  obtain ⟨va,vn,vc,ps,rfl,hv,hm⟩:=h6
  try simp only [Act.put,List.setIfInBounds_toArray,set_cons_zero,set_cons_succ]
  go_wp2_with fail
  go_ret2
  obtain ⟨V,hV,hVQ⟩:=HG.out
  exact ⟨V,0,hV,by rw [hVQ,HL.out];exact MkP.of hv hm (D00 hbel3 hb2)⟩
 ·have hEi:((E:Int)==0)=false:=beq_eq_false_iff_ne.2 (by omega)
  have HL:Hid (psV Q E SB=([],(E:Int))):=Qhd (by unfold psV;rw [if_neg hE])
  clear hE
  go_wp2_with fail
  go_ret2
  obtain ⟨V,hV,hVQ⟩:=HG.out
  exact ⟨V,E,hV,by rw [hVQ,HL.out];exact MkP.nil hbel3⟩
end Go.Proofs.YtbdmkfjgnjfjbaaGreat
namespace Go.Proofs.YtbdmkfjgnjfjbaaGreat
open Go.ChangeShapes Go.WideShapes Go.ChangeAt Go.RowKit
section
variable {H:Type} {enc:TypeId × Value→H} {W:World}
theorem Qa3 {fuel:Nat}{cs:List Value}{x:DataW H × List MemPlace}(h:DataW.trod enc Tryz.prog W 0 (fun _=>true) true fuel 41 cs=some x):∃ A:List UInt8,A.length=8∧cs=by8 A:=by
 obtain ⟨xs,e1,e2,e3⟩:=Q7y Tryz.underlying41 Tryz.underlying5 (by kernel_rfl) (by kernel_rfl) h
 refine ⟨xs.map fun z=>UInt8.ofNat z.toNat,by rw [List.length_map,e2],?_⟩
 rw [e1]
 unfold by8
 rw [map_map]
 exact List.map_congr_left (fun z hz=>by show _=u8v (UInt8.ofNat z.toNat);rw [u8v_of _ (Q7w (e3 z hz))])
theorem Qa0 {fuel:Nat}{cs:List Value}{x:DataW H × List MemPlace}(h:DataW.trod enc Tryz.prog W 0 (fun _=>true) true fuel 102 cs=some x):∃ p:Nat × Nat,cs=spc p∧(p.1<W256∧p.2<W256):=by
 obtain ⟨xs,n,hn,hx,hcl,hlen,hf⟩:=DataW.trod_struct Tryz.underlying102 h
 have c8:Tryz.prog.cellsOf 102=8:=by kernel_rfl
 have c4:Tryz.prog.cellsOf 24=4:=by kernel_rfl
 have hl:xs.length=2:=hlen
 rw [c8] at hcl
 match xs,hl with
 | [y0,y1],_ =>
  have h0:=hf 0 _ rfl
  have h1:=hf 1 _ rfl
  change DataW.trod enc Tryz.prog W 0 (fun _=>true) true n 24 ((cs.drop 0).take (Tryz.prog.cellsOf 24))=some y0 at h0
  change DataW.trod enc Tryz.prog W 0 (fun _=>true) true n 24 ((cs.drop 4).take (Tryz.prog.cellsOf 24))=some y1 at h1
  obtain ⟨A,hA,e0⟩:=Q3x h0
  obtain ⟨B,hB,e1⟩:=Q3x h1
  rw [c4] at e0 e1
  refine ⟨(A,B),?_,hA,hB⟩
  have q0:cs.drop 0=cs:=rfl
  have q8:cs.drop 8=[]:=List.drop_eq_nil_of_le (by omega)
  rw [←q0,piece cs 0 4,e0,piece cs (0+4) 4,e1,q8]
  simp [spc]
def SzA (d:DataW H)(a:Acc):Prop:=∃ y0 y1 y2 y3,d=.agg [y0,y1,y2,y3]∧Sz y2 a.c.length∧Sz y3 a.s.length
theorem Qbg {fuel:Nat}{cs:List Value}{x:DataW H × List MemPlace}(h:DataW.trod enc Tryz.prog W 0 (fun _=>true) true fuel 28 cs=some x):∃ a:Acc,cs=accs a∧a.Ok∧a.In W∧SzA x.1 a:=by
 obtain ⟨xs,n,hn,hx,hcl,hlen,hf⟩:=DataW.trod_struct Tryz.underlying28 h
 have c7:Tryz.prog.cellsOf 28=7:=by kernel_rfl
 have c4:Tryz.prog.cellsOf 24=4:=by kernel_rfl
 have c1:Tryz.prog.cellsOf 22=1:=by kernel_rfl
 have c2:Tryz.prog.cellsOf 25=1:=by kernel_rfl
 have c3:Tryz.prog.cellsOf 26=1:=by kernel_rfl
 have hl:xs.length=4:=hlen
 rw [c7] at hcl
 match xs,hl with
 | [y0,y1,y2,y3],_ =>
  have h0:=hf 0 _ rfl
  have h1:=hf 1 _ rfl
  have h2:=hf 2 _ rfl
  have h3:=hf 3 _ rfl
  change DataW.trod enc Tryz.prog W 0 (fun _=>true) true n 22 ((cs.drop 0).take (Tryz.prog.cellsOf 22))=some y0 at h0
  change DataW.trod enc Tryz.prog W 0 (fun _=>true) true n 24 ((cs.drop 1).take (Tryz.prog.cellsOf 24))=some y1 at h1
  change DataW.trod enc Tryz.prog W 0 (fun _=>true) true n 25 ((cs.drop 5).take (Tryz.prog.cellsOf 25))=some y2 at h2
  change DataW.trod enc Tryz.prog W 0 (fun _=>true) true n 26 ((cs.drop 6).take (Tryz.prog.cellsOf 26))=some y3 at h3
  obtain ⟨z,e0,_,hw⟩:=DataW.trod_int Tryz.underlying22 h0
  obtain ⟨m,hm,e1⟩:=Q3x h1
  obtain ⟨cv,C,e2,r2,z2⟩:=Q8g elU8.ht Tryz.underlying5 (by kernel_rfl) h2
  obtain ⟨sv,S,e3,r3,g3,z3⟩:=Q64 (f:=spc) (good:=fun p=>p.1<W256∧p.2<W256) (sz:=fun _ _=>True) (size:=8) Tryz.underlying26 (by kernel_rfl) (by omega) Q27 h3 (fun n _ cs' x' hx=>by
   obtain ⟨p,g1,g2⟩:=Qa0 hx
   exact ⟨p,g1,g2,trivial⟩)
  have hb:=bounds_u64 hw
  obtain ⟨z',rfl⟩:=Int.eq_ofNat_of_zero_le hb.1
  rw [c1] at e0
  rw [c4] at e1
  rw [c2] at e2
  rw [c3] at e3
  refine ⟨⟨z',m,cv,C,sv,S⟩,?_,⟨by show z'<_;omega,hm,g3⟩,⟨r2,r3⟩,y0.1,y1.1,y2.1,y3.1,by rw [hx];rfl,z2,z3.sz⟩
  have q0:cs.drop 0=cs:=rfl
  have q7:cs.drop 7=[]:=List.drop_eq_nil_of_le (by omega)
  rw [←q0,piece cs 0 1,e0,piece cs (0+1) 4,e1,piece cs (0+1+4) 1,e2,piece cs (0+1+4+1) 1,e3,q7]
  rfl
def SzH (d:DataW H)(p:Hol):Prop:=∃ y0 y1,d=.agg [y0,y1]∧SzA y1 p.a
theorem Qbf {fuel:Nat}{cs:List Value}{x:DataW H × List MemPlace}(h:DataW.trod enc Tryz.prog W 0 (fun _=>true) true fuel 123 cs=some x):∃ p:Hol,cs=hols p∧(p.a.Ok∧p.a.In W)∧SzH x.1 p:=by
 obtain ⟨xs,n,hn,hx,hcl,hlen,hf⟩:=DataW.trod_struct Tryz.underlying123 h
 have c15:Tryz.prog.cellsOf 123=15:=by kernel_rfl
 have c7:Tryz.prog.cellsOf 28=7:=by kernel_rfl
 have c8:Tryz.prog.cellsOf 41=8:=by kernel_rfl
 have hl:xs.length=2:=hlen
 rw [c15] at hcl
 match xs,hl with
 | [y0,y1],_ =>
  have h0:=hf 0 _ rfl
  have h1:=hf 1 _ rfl
  change DataW.trod enc Tryz.prog W 0 (fun _=>true) true n 41 ((cs.drop 0).take (Tryz.prog.cellsOf 41))=some y0 at h0
  change DataW.trod enc Tryz.prog W 0 (fun _=>true) true n 28 ((cs.drop 8).take (Tryz.prog.cellsOf 28))=some y1 at h1
  obtain ⟨A,hA,e0⟩:=Qa3 h0
  obtain ⟨a,e1,k1,i1,s1⟩:=Qbg h1
  rw [c8] at e0
  rw [c7] at e1
  refine ⟨⟨A,a,hA⟩,?_,⟨k1,i1⟩,y0.1,y1.1,by rw [hx];rfl,s1⟩
  have q0:cs.drop 0=cs:=rfl
  have q15:cs.drop 15=[]:=List.drop_eq_nil_of_le (by omega)
  rw [←q0,piece cs 0 8,e0,piece cs (0+8) 7,e1,q15,List.append_nil]
  rfl
theorem Qa1 {r:Reach}{b0:Nat}{v:Value}{d:DataW H}{p:List MemPlace}
  (hv:Value.okWide Tryz.prog W r b0 39 v) (h:DataW.Trod enc Tryz.prog W 0 (fun _=>true) true 39 v d p) :
  ∃ l:List Hol,RowOf hols 15 W v l∧(∀ q∈l,q.a.Ok∧q.a.In W)∧SzL SzH d l:=by
 obtain ⟨fuel,hf⟩:=h
 obtain ⟨v',l,h1,h2,h3,h4⟩:=Q64 (f:=hols) (good:=fun q=>q.a.Ok∧q.a.In W) (sz:=SzH) (size:=15) Tryz.underlying39 (by kernel_rfl) (by omega) Q0z hf (fun n _ cs' x' hx=>Qbf hx)
 obtain rfl:v=v':=Ql4 h1 (by obtain ⟨a,len,cap,hh⟩:=okWide_slice Tryz.underlying39 hv;exact ⟨a,len,cap,hh⟩)
 exact ⟨l,h2,h3,h4⟩
theorem Qa2 {r:Reach}{b0:Nat}{v:Value}{d:DataW H}{p:List MemPlace}(hv:Value.okWide Tryz.prog W r b0 41 v)(h:DataW.Trod enc Tryz.prog W 0 (fun _=>true) true 41 v d p):∃ A:List UInt8,v=.agg (by8 A).toArray∧A.length=8:=by
 obtain ⟨xs,rfl,h2,h3⟩:=Qd1 Tryz.underlying41 Tryz.underlying5 (by kernel_rfl) (by kernel_rfl) hv h
 refine ⟨xs.map fun z=>UInt8.ofNat z.toNat,?_,by rw [List.length_map,h2]⟩
 unfold by8
 rw [map_map]
 congr 2
 exact List.map_congr_left (fun z hz=>by show _=u8v (UInt8.ofNat z.toNat);rw [u8v_of _ (Q7w (h3 z hz))])
theorem Qbe {r:Reach}{b0:Nat}{v:Value}{d:DataW H}{p:List MemPlace}(hv:Value.okWide Tryz.prog W r b0 24 v)(h:DataW.Trod enc Tryz.prog W 0 (fun _=>true) true 24 v d p):∃ N:Nat,v=.agg (wcs N).toArray∧N<W256:=by
 obtain ⟨xs,rfl,h2,h3⟩:=Qd1 Tryz.underlying24 Tryz.underlying22 (by kernel_rfl) (by kernel_rfl) hv h
 obtain ⟨N,hN,rfl⟩:=Qca xs h2 h3
 exact ⟨N,rfl,hN⟩
theorem SzA.upto {d:DataW H}{a:Acc}(h:SzA d a):1+a.c.length+a.s.length≤Rows.uptoBulk d:=by
 obtain ⟨y0,y1,y2,y3,rfl,z2,z3⟩:=h
 have h2:=Qat z2
 have h3:=Qat z3
 simp only [Rows.uptoBulk,Rows.uptoBulkAll]
 omega
theorem SzH.upto {d:DataW H}{p:Hol}(h:SzH d p):1+p.a.c.length+p.a.s.length≤Rows.uptoBulk d:=by
 obtain ⟨y0,y1,rfl,z⟩:=h
 have h2:=z.upto
 simp only [Rows.uptoBulk,Rows.uptoBulkAll]
 omega
end
end Go.Proofs.YtbdmkfjgnjfjbaaGreat
