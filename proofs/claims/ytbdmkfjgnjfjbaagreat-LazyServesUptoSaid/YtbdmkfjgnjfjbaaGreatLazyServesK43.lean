/- world.ProveSlot, the reference's OProveSlot. | The reference's OProveSlot. | Rows stay where cells of a block of another kind turn. | What a world serves: plain -/
import Derived.Test.YtbdmkfjgnjfjbaaGreatLazyServesK41
import Derived.Test.YtbdmkfjgnjfjbaaGreatLazyServesK42
import Derived.Test.YtbdmkfjgnjfjbaaGreatLazyServesK25
set_option linter.unusedSimpArgs false
set_option linter.unusedVariables false
set_option maxHeartbeats 4000000
set_option maxRecDepth 100000
namespace Go.Proofs.YtbdmkfjgnjfjbaaGreat
open Go.RowKit
theorem Qfe {S:List (Nat × Nat)}(hN:S.length≤1048576){t:Nd}(ht:erN t=trS S):BgN t:=Q5m (sKV S) (by simpa [sKV] using hN) ht
def psV (S:List (Nat × Nat))(E:Nat)(SB:List UInt8):List (List UInt8) × Int:=if E=0 then (wyP (trS S) SB,rgE (trS S)) else ([],(E:Int))
def PsPost (H:List Hol)(t:Nat)(SB:List UInt8)(w:World)(e:Ending)(w':World):Prop:=∃ V E,GetR H t V E∧MkP (psV V.2.2.2 E SB).2 (psV V.2.2.2 E SB).1 w e w'
theorem GetR.slots {H:List Hol}{t:Nat}{V:Nat × Nat × List UInt8 × List (Nat × Nat)}{E:Nat}(h:GetR H t V E)(hs:∀ h∈H,h.a.s.length≤1048576∧h.a.c.length≤1048576):V.2.2.2.length≤1048576:=by
 rcases h with ⟨_,_,rfl⟩|⟨_,_,⟨i,hi,_,rfl⟩|⟨_,rfl⟩⟩
 ·show ([]:List (Nat × Nat)).length≤_;simp
 ·exact (hs _ (List.getElem_mem hi)).1
 ·show ([]:List (Nat × Nat)).length≤_;simp
theorem Q8e (a:Option Addr)(n c:Nat)(H:List Hol)(hn:H.length=n)(hN:n≤1048576)(hk:∀ h∈H,h.a.Ok)(hs:∀ h∈H,h.a.s.length≤1048576∧h.a.c.length≤1048576)(A:List UInt8)(hA:A.length=8)(K:Nat)(w:World)(h:RowOf hols 15 w (.slice a n c) H)(hi:∀ h∈H,h.a.In w) :
  Calls Tryz.prog 18 #[.slice a n c,.agg (by8 A).toArray,.agg (wcs K).toArray] w (PsPost H (numL A) (sumB (wb K)) w):=by
 obtain ⟨w1,hw1⟩:∃ w1,w1=(w.alloc (.cells (by8 A).toArray 41)).alloc (.cells (wcs K).toArray 24):=⟨_,rfl⟩
 have ha:Blk 41 w1 w.heap.size (by8 A):=by rw [hw1];exact (Blk.new w _ _).alloc _
 have hkw:Blk 24 w1 (w.heap.size+1) (wcs K):=by
  have:=Blk.new (w.alloc (.cells (by8 A).toArray 41)) 24 (wcs K)
  simp only [World.size_alloc] at this
  rw [hw1];exact this
 have hbel:Below w.heap.size w w1:=by rw [hw1];exact (Qba _ _).alloc (by simp) _
 have cg:=Qc8 a n c H hn hk (fun h hh=>⟨by have:=(hs h hh).2;omega,by have:=(hs h hh).1;omega⟩) A hA (by omega) w1 (h.below hbel) (fun p hp=>(hi p hp).below hbel)
 have hKl:(wb K).length=32:=wb_len K
 have hSl:(sumB (wb K)).length=32:=Q0i _
 have c0:∀ u:World,Calls Tryz.prog 64 #[.agg (wcs K).toArray] u fun e w'=>e=.returned (.agg (by8 (wb K)).toArray)∧Below u.heap.size u w':=fun u=>Q6s K u
 have c00:∀ (g:Nat) (u:World),Blk 30 u g (by8 (wb K))→Calls Tryz.prog 37 #[.slice (some ⟨g,0,none⟩) 32 32] u fun e w'=>e=.returned (.agg (by8 (sumB (wb K))).toArray)∧Below u.heap.size u w':=fun g u hu=>Q3w (some ⟨g,0,none⟩) 32 32 (wb K) hKl u (Q1u hu hKl)
 have ct:=fun (a:Option Addr) (n c:Nat) (S:List (Nat × Nat)) (hn:S.length=n) (hN:n≤1048576) u hr=>Q54 a n c S hn hN u hr
 have cm:=fun (S:List (Nat × Nat)) (hS:S.length≤1048576) (y:Nd) (hy:erN y=trS S) (a:Option Addr) (c:Nat) u (hI:IsNd u y) hB=>make_T hy (Qfe hS hy) a c hSl u hI hB
 have hgs:=fun V E (hg:GetR H (numL A) V E)=>GetR.slots hg hs
 unfold PsPost
 obtain ⟨G,hG⟩:∃ G,G=GetR H (numL A):=⟨_,rfl⟩
 unfold Q52 at cg
 obtain ⟨SB,hSB⟩:∃ B,B=sumB (wb K):=⟨_,rfl⟩
 obtain ⟨KB,hKB⟩:∃ B,B=wb K:=⟨_,rfl⟩
 simp only [←hG,←hSB] at cg cm c00 hgs hSl ⊢
 simp only [←hKB] at c0 c00 hKl
 have hAl:(by8 A).length=8:=by rw [Q0n];exact hA
 have hWl:=Q0u K
 obtain ⟨AC,hAC⟩:∃ C,C=by8 A:=⟨_,rfl⟩
 obtain ⟨WC,hWC⟩:∃ C,C=wcs K:=⟨_,rfl⟩
 rw [←hAC] at ha hAl
 rw [←hWC] at hkw hWl
 rw [←hAC,←hWC] at hw1
 simp only [←hAC] at cg
 simp only [←hWC] at c0
 rw [←hAC,←hWC]
 have HWe:=Qhd hw1
 have Cg:=Qhd cg
 have C0:=Qhd c0
 have C00:=Qhd c00
 have Ct:=Qhd ct
 have Cm:=Qhd cm
 have Hgs:=Qhd hgs
 have HSl:=Qhd hSl
 have HKl:=Qhd hKl
 have HAl:=Qhd hAl
 have HWl:=Qhd hWl
 have a1:=ha.all0
 have hSl2:(by8 SB).length=32:=by rw [Q0n];exact HSl.out
 have HSo:=Qhd (u8_one SB)
 have hKl2:(by8 KB).length=32:=by rw [Q0n];exact HKl.out
 have HKo:=Qhd (u8_one KB)
 have hz7l:z7.length=7:=rfl
 have hznew:∀ u:World,Blk 28 (u.alloc (.cells #[.int .u64 0,.int .u64 0,.int .u64 0,.int .u64 0,.int .u64 0,.slice none 0 0,.slice none 0 0] 28)) u.heap.size z7:=fun u=>Blk.new u _ z7
 have Hz7:=Qhd hznew
 clear hw1 cg c0 c00 ct cm hgs hG hSB hKB hAC hWC hSl hKl hAl hWl hn hN hk hs h hi hA hznew ha
 go_enter Tryz.func18,Tryz.ntmps18
 go_upto_region 2 with (first
  |(rw [←HWe.out])
  |((with_reducible refine Qgl 14 ?_);refine Qlw 41 4 w.heap.size 0 Q0v HAl.out a1 ?_)
  |(go_at_call 63;(with_reducible refine Cg.out.mono ?_);rintro e w2 ⟨B,E,rfl,hG,hIn,b2⟩;have hBl:(accs B).length=7:=rfl;have hBo:=Q3s hIn)
  |((with_reducible refine Qgs 16 ?_);refine Qsa 28 8 16 w2.heap.size (accs B) aggAcc (Hz7.out w2) hBl hz7l hBo (Qba w2 _) (Nat.le_refl _) ?_;intro w3 h3 b3 _))
 have b13:=Below.then b2 b3
 have hbel3:=Below.then hbel b13
 have hIn3:=hIn.below b3
 obtain ⟨ca,cc,sa,sc,hcv,hsv⟩:=Q0w hIn3
 have hsl:B.s.length≤1048576:=Hgs.out _ _ hG
 obtain ⟨sn,hsn⟩:∃ s,s=B.s.length:=⟨_,rfl⟩
 have hrow:RowOf spc 8 w3 (.slice sa sn sc) B.s:=by have:=hIn3.2;rw [hsv,←hsn] at this;exact this
 have d6:w3.cell? ⟨w2.heap.size,6,none⟩=some (.slice sa sn sc):=by rw [hsn,←hsv];exact h3.cell 6
 have hkw3:=hkw.kept b13
 have r3:=hkw3.all0
 obtain ⟨Q,hQ⟩:∃ Q:List (Nat × Nat),Q=B.s:=⟨_,rfl⟩
 rw [←hQ] at hsl hsn hrow
 have HG:Hid (∃ V,G V E∧V.2.2.2=Q):=Qhd ⟨_,hG,hQ.symm⟩
 have Ct':Hid (∀ u,Below w3.heap.size w3 u→Calls Tryz.prog 36 #[.slice sa sn sc] u (NdPost (trS Q) u)):=Qhd fun u hu=>Ct.out sa sn sc Q hsn.symm (by rw [hsn];exact hsl) u (hrow.below hu)
 have Cm':=Qhd (Cm.out Q hsl)
 obtain ⟨T,hT⟩:∃ T,T=trS Q:=⟨_,rfl⟩
 rw [←hT] at Ct' Cm'
 have HT:=Qhd hT
 clear Ct Cm Hgs hcv hsv hIn3 hIn hBo hBl hrow hsl hsn hG hQ hT Cg Hz7 HAl a1 b2 b3 hz7l hkw h3
 by_cases hE:E=0
 ·subst hE
  obtain ⟨L,hL⟩:∃ R,R=wyP T SB:=⟨_,rfl⟩
  obtain ⟨F,hF⟩:∃ R,R=rgE T:=⟨_,rfl⟩
  have HL:Hid (psV Q 0 SB=(L,F)):=Qhd (by rw [hL,hF,HT.out];rfl)
  rw [←hL,←hF] at Cm'
  clear hL hF HT
  go_upto_region 6 with (first
   |((with_reducible refine Qgl 21 ?_);refine Qlw 24 5 (w.heap.size+1) 0 Q0f HWl.out r3 ?_)
   |(go_at_call 64;(with_reducible refine (C0.out _).mono ?_);rintro e w4 ⟨rfl,b4⟩;have n4:=Blk.new w4 30 zh)
   |((with_reducible refine Qgs 22 ?_);refine Qsa 30 10 22 w4.heap.size (by8 KB) Q0l n4 hKl2 (by rfl) HKo.out (Qba w4 _) (Nat.le_refl _) ?_;intro w5 h5 b5 _;have s5:=sl32 w4.heap.size 0 w5;have b35:=Below.then b4 b5)
   |(go_at_call 37;(with_reducible refine (C00.out _ _ h5).mono ?_);rintro e w6 ⟨rfl,b6⟩;have n6:=Blk.new w6 30 zh)
   |((with_reducible refine Qgs 24 ?_);refine Qsa 30 11 24 w6.heap.size (by8 SB) Q0l n6 hSl2 (by rfl) HSo.out (Qba w6 _) (Nat.le_refl _) ?_;intro w7 h7 b7 _))
  have b37:=Below.then b35 (Below.then b6 b7)
  have hbel7:=Below.then hbel3 b37
  have hfk:Hid (∀ u,Below w7.heap.size w7 u→Bytes u (.slice (some ⟨w6.heap.size,0,none⟩) 32 32) SB):=Qhd fun u hu=>Q1u (h7.kept hu) HSl.out
  have d67:w7.cell? ⟨w2.heap.size,6,none⟩=some (.slice sa sn sc):=(b37.cell (World.block_lt_of_cell? w3 _ d6)).trans d6
  have k6:=fun u:Ext w7=>u.cell d67
  have s32:=fun off u=>sl32 w6.heap.size off u
  clear h5 h7 n4 n6 s5 b4 b5 b6 b7 b35 hSl2 hKl2 d6 r3 hkw3
  refine Q02 w7 9 (by kernel_rfl) (by kernel_rfl) (Below.refl _ _) ?_;simp only [List.take_succ_cons,List.take_zero,List.take_nil]
  iterate 2 (refine Q01 (by rfl) (fun K hK=>?_);go_simp;refine hK _ ?_;clear hK K)
  refine Q07 27 (NdW T) rfl (of_decide_eq_true rfl) (NdW.mono _) (fun w8 hw8=>?_) ?_
  ·simp only [relOf,List.filter_nil,Q00]
   refine ⟨rfl,?_⟩
   go_simp
   refine (Ct'.out w8 (Below.then b37 hw8)).mono ?_
   rintro e w9 ⟨y,rfl,oy,ey,b9⟩
   exact ⟨_,rfl,⟨y,rfl,oy.is,ey⟩,b9⟩
  (refine Q01 (by rfl) (fun K hK=>?_);go_simp;refine hK _ ?_;clear hK K)
  refine Q07 29 (TxW F L) rfl (of_decide_eq_true rfl) (TxW.mono _ _) (fun w8 hw8=>?_) ?_
  ·change Q00 w8 [(27,_)] _ _
   rintro v ⟨y,rfl,iy,ey⟩
   simp only [Q00]
   refine ⟨rfl,?_⟩
   go_simp
   refine (Cm'.out y ey _ _ w8 iy (hfk.out w8 hw8)).mono ?_
   intro e w9 h9
   obtain ⟨v,rfl,hv,b9⟩:=MkP.tx h9
   exact ⟨_,rfl,hv,b9⟩
  refine Q07 30 (TlxW L) rfl (of_decide_eq_true rfl) (TlxW.mono _) (fun w8 hw8=>?_) ?_
  ·change Q00 w8 [(29,_)] _ _
   rintro v ⟨va,vn,vc,ps,rfl,hv⟩
   simp only [Q00]
   refine ⟨rfl,?_⟩
   go_simp
   exact ⟨Below.refl _ _,_,_,_,_,rfl,hv⟩
  refine wpX_eq (.int .i64 F) (fun w8 hw8=>?_) ?_
  ·change Q00 w8 [(29,_)] _ _
   rintro v ⟨va,vn,vc,ps,rfl,hv⟩
   simp only [Q00]
   refine ⟨rfl,?_⟩
   go_simp
   exact Below.refl _ _
  refine Q07 6 (TlxW L) rfl (of_decide_eq_true rfl) (TlxW.mono _) (fun w8 hw8=>?_) ?_
  ·change Q00 w8 [(30,_)] _ _
   rintro v ⟨va,vn,vc,ps,rfl,hv⟩
   simp only [Q00]
   refine ⟨rfl,?_⟩
   go_simp
   exact ⟨Below.refl _ _,_,_,_,_,rfl,hv⟩
  (refine Q01 (by rfl) (fun K hK=>?_);go_simp;refine hK _ ?_;clear hK K)
  refine Q09 ?_
  intro u2 hb2 v27 _ v29 _ v30 _ v6 h6
  change Q00 u2 [] _ _
  simp only [Q00,List.drop_succ_cons,List.drop_zero,List.drop_nil]
  obtain ⟨va,vn,vc,ps,rfl,hv,hm⟩:=h6
  clear s32 k6
  try simp only [Act.put,Qzs]
  go_wp2_with fail
  go_ret2
  obtain ⟨V,hV,hVQ⟩:=HG.out
  exact ⟨V,0,hV,by rw [hVQ,HL.out];exact MkP.of hv hm (Below.then hbel7 hb2)⟩
 ·have hEi:((E:Int)==0)=false:=beq_eq_false_iff_ne.2 (by omega)
  have HL:Hid (psV Q E SB=([],(E:Int))):=Qhd (by unfold psV;rw [if_neg hE])
  clear hE
  go_wp2_with fail
  go_ret2
  obtain ⟨V,hV,hVQ⟩:=HG.out
  exact ⟨V,E,hV,by rw [hVQ,HL.out];exact MkP.nil hbel3⟩
theorem Q73 (a:Option Addr)(n c:Nat)(H:List Hol)(hn:H.length=n)(hN:n≤1048576)(hk:∀ h∈H,h.a.Ok)(hs:∀ h∈H,h.a.s.length≤1048576∧h.a.c.length≤1048576)(A:List UInt8)(hA:A.length=8)(K:Nat)(w:World)(h:RowOf hols 15 w (.slice a n c) H)(hi:∀ h∈H,h.a.In w) :
  Calls Tryz.prog 19 #[.slice a n c,.agg (by8 A).toArray,.agg (wcs K).toArray] w (PsPost H (numL A) (sumB (wb K)) w):=by
 obtain ⟨w1,hw1⟩:∃ w1,w1=(w.alloc (.cells (by8 A).toArray 41)).alloc (.cells (wcs K).toArray 24):=⟨_,rfl⟩
 have ha:Blk 41 w1 w.heap.size (by8 A):=by rw [hw1];exact (Blk.new w _ _).alloc _
 have hkw:Blk 24 w1 (w.heap.size+1) (wcs K):=by
  have:=Blk.new (w.alloc (.cells (by8 A).toArray 41)) 24 (wcs K)
  simp only [World.size_alloc] at this
  rw [hw1];exact this
 have hbel:Below w.heap.size w w1:=by rw [hw1];exact (Qba _ _).alloc (by simp) _
 have cg:=Qd0 a n c H hn hk A hA w1 (h.below hbel) (fun p hp=>(hi p hp).below hbel)
 have hKl:(wb K).length=32:=wb_len K
 have hSl:(sumB (wb K)).length=32:=Q0i _
 have c0:∀ u:World,Calls Tryz.prog 66 #[.agg (wcs K).toArray] u _:=fun u=>Q1s K u
 have c00:=fun (a:Option Addr) (c:Nat) (u:World) (hu:Bytes u (.slice a 32 c) (wb K))=>Q3k a 32 c (wb K) hKl u hu (by omega)
 have ct:=fun (B:Acc) (hB:B.s.length≤1048576) u (hI:B.In u)=>Q7c B hB u hI
 have cm:=fun (S:List (Nat × Nat)) (hS:S.length≤1048576) (y:Nd) (hy:erN y=trS S) (a:Option Addr) (c:Nat) u (hI:IsNd u y) hB=>Qhq hy (Qfe hS hy) a c hSl u hI hB
 have hgs:=fun V E (hg:GetR H (numL A) V E)=>GetR.slots hg hs
 unfold PsPost
 obtain ⟨G,hG⟩:∃ G,G=GetR H (numL A):=⟨_,rfl⟩
 unfold Q52 at cg
 obtain ⟨SB,hSB⟩:∃ B,B=sumB (wb K):=⟨_,rfl⟩
 obtain ⟨KB,hKB⟩:∃ B,B=wb K:=⟨_,rfl⟩
 simp only [←hG,←hSB] at cg cm c00 hgs hSl ⊢
 simp only [←hKB] at c0 c00 hKl
 have hAl:(by8 A).length=8:=by rw [Q0n];exact hA
 have hWl:=Q0u K
 obtain ⟨AC,hAC⟩:∃ C,C=by8 A:=⟨_,rfl⟩
 obtain ⟨WC,hWC⟩:∃ C,C=wcs K:=⟨_,rfl⟩
 rw [←hAC] at ha hAl
 rw [←hWC] at hkw hWl
 rw [←hAC,←hWC] at hw1
 simp only [←hAC] at cg
 simp only [←hWC] at c0
 rw [←hAC,←hWC]
 have HWe:=Qhd hw1
 have Cg:=Qhd cg
 have C0:=Qhd c0
 have C00:=Qhd c00
 have Ct:=Qhd ct
 have Cm:=Qhd cm
 have Hgs:=Qhd hgs
 have HSl:=Qhd hSl
 have HKl:=Qhd hKl
 have HAl:=Qhd hAl
 have HWl:=Qhd hWl
 have a1:=ha.all0
 have hz7l:z7.length=7:=rfl
 have hznew:∀ u:World,Blk 28 (u.alloc (.cells #[.int .u64 0,.int .u64 0,.int .u64 0,.int .u64 0,.int .u64 0,.slice none 0 0,.slice none 0 0] 28)) u.heap.size z7:=fun u=>Blk.new u _ z7
 have Hz7:=Qhd hznew
 clear hw1 cg c0 c00 ct cm hgs hG hSB hKB hAC hWC hSl hKl hAl hWl hn hN hk hs h hi hA hznew ha
 go_enter Tryz.func19,Tryz.ntmps19
 go_upto_region 2 with (first
  |(rw [←HWe.out])
  |((with_reducible refine Qgl 12 ?_);refine Qlw 41 4 w.heap.size 0 Q0v HAl.out a1 ?_)
  |(go_at_call 65;(with_reducible refine Cg.out.mono ?_);rintro e w2 ⟨B,E,rfl,hG,hIn,b2⟩;have hBl:(accs B).length=7:=rfl;have hBo:=Q3s hIn)
  |((with_reducible refine Qgs 14 ?_);refine Qsa 28 8 14 w2.heap.size (accs B) aggAcc (Hz7.out w2) hBl hz7l hBo (Qba w2 _) (Nat.le_refl _) ?_;intro w3 h3 b3 _))
 have b13:=Below.then b2 b3
 have hbel3:=Below.then hbel b13
 have hIn3:=hIn.below b3
 have hsl:B.s.length≤1048576:=Hgs.out _ _ hG
 have S3:=Qhd h3.all0
 have R3:=Qhd (hkw.kept b13).all0
 obtain ⟨Q,hQ⟩:∃ Q:List (Nat × Nat),Q=B.s:=⟨_,rfl⟩
 have HG:Hid (∃ V,G V E∧V.2.2.2=Q):=Qhd ⟨_,hG,hQ.symm⟩
 have ct':∀ u,Below w3.heap.size w3 u→Calls Tryz.prog 40 #[.agg (accs B).toArray] u (NdPost (trS Q) u):=fun u hu=>by rw [hQ];exact Ct.out B hsl u (hIn3.below hu)
 rw [←hQ] at hsl
 have Cm':=Qhd (Cm.out Q hsl)
 obtain ⟨T,hT⟩:∃ T,T=trS Q:=⟨_,rfl⟩
 rw [←hT] at Cm'
 simp only [←hT] at ct'
 have HT:=Qhd hT
 obtain ⟨BC,hBC⟩:∃ C,C=accs B:=⟨_,rfl⟩
 rw [←hBC] at S3 hBl
 simp only [←hBC] at ct'
 have Ct':=Qhd ct'
 have HBl:=Qhd hBl
 clear Ct Cm Hgs hIn3 hIn hBo hsl hG hQ hT Cg Hz7 HAl a1 b2 b3 hz7l hkw h3 ct' hBC hBl
 by_cases hE:E=0
 ·subst hE
  obtain ⟨L,hL⟩:∃ R,R=wyP T SB:=⟨_,rfl⟩
  obtain ⟨F,hF⟩:∃ R,R=rgE T:=⟨_,rfl⟩
  have HL:Hid (psV Q 0 SB=(L,F)):=Qhd (by rw [hL,hF,HT.out];rfl)
  rw [←hL,←hF] at Cm'
  clear hL hF HT
  go_upto_region 4 with fail
  refine Q02 w3 10 (by kernel_rfl) (by kernel_rfl) (Below.refl _ _) ?_;simp only [List.take_succ_cons,List.take_zero,List.take_nil]
  (refine Q01 (by rfl) (fun K hK=>?_);rw [if_pos (by rfl)];refine ⟨_,fun u=>Q08 _ (.tmp 8) (by rfl) _ _ (by rfl) aggAcc HBl.out (rangeAt.ext S3.out u),hK _ ?_⟩;clear hK K;simp only [Act.put,Qzs])
  refine Q07 20 (NdW T) rfl (of_decide_eq_true rfl) (NdW.mono _) (fun w8 hw8=>?_) ?_
  ·simp only [relOf,List.filter_nil,Q00]
   refine ⟨rfl,?_⟩
   go_simp
   refine (Ct'.out w8 hw8).mono ?_
   rintro e w9 ⟨y,rfl,oy,ey,b9⟩
   exact ⟨_,rfl,⟨y,rfl,oy.is,ey⟩,b9⟩
  (refine Q01 (by rfl) (fun K hK=>?_);rw [if_pos (by rfl)];refine ⟨_,fun u=>Q08 _ (.tmp 5) (by rfl) _ _ (by rfl) Q0f HWl.out (rangeAt.ext R3.out u),hK _ ?_⟩;clear hK K;simp only [Act.put,Qzs])
  refine Q07 22 (FrT 0 KB) rfl (of_decide_eq_true rfl) (FrT.mono _ _) (fun w8 hw8=>?_) ?_
  ·simp only [relOf,List.filter_nil,List.filter_cons,Q00]
   try simp only [Q00]
   refine ⟨rfl,?_⟩
   go_simp
   refine (C0.out w8).mono ?_
   rintro e w9 ⟨v,rfl,o9,b9⟩
   exact ⟨v,rfl,(FrT.own o9).lower (Nat.zero_le _),b9⟩
  refine Q07 23 (FrT 0 SB) rfl (of_decide_eq_true rfl) (FrT.mono _ _) (fun w8 hw8=>?_) ?_
  ·change Q00 w8 [(22,_)] _ _
   intro v22 h22
   obtain ⟨ka,kc,rfl,_⟩:=h22.1.form' 32 HKl.out
   simp only [Q00]
   refine ⟨rfl,?_⟩
   go_simp
   refine (C00.out _ _ w8 h22.1).mono ?_
   rintro e w9 ⟨v,rfl,o9,b9⟩
   exact ⟨v,rfl,o9.lower (Nat.zero_le _),b9⟩
  refine Q07 24 (TxW F L) rfl (of_decide_eq_true rfl) (TxW.mono _ _) (fun w8 hw8=>?_) ?_
  ·change Q00 w8 [(23,_),(20,_)] _ _
   intro v23 h23 v20 h20
   obtain ⟨ka,kc,rfl,_⟩:=h23.1.form' 32 HSl.out
   obtain ⟨y,rfl,iy,ey⟩:=h20
   simp only [Q00]
   refine ⟨rfl,?_⟩
   go_simp
   refine (Cm'.out y ey _ _ w8 iy h23.1).mono ?_
   intro e w9 h9
   obtain ⟨v,rfl,hv,b9⟩:=MkP.tx h9
   exact ⟨_,rfl,hv,b9⟩
  refine Q07 25 (TlxW L) rfl (of_decide_eq_true rfl) (TlxW.mono _) (fun w8 hw8=>?_) ?_
  ·change Q00 w8 [(24,_)] _ _
   rintro v ⟨va,vn,vc,ps,rfl,hv⟩
   simp only [Q00]
   refine ⟨rfl,?_⟩
   go_simp
   exact ⟨Below.refl _ _,_,_,_,_,rfl,hv⟩
  refine wpX_eq (.int .i64 F) (fun w8 hw8=>?_) ?_
  ·change Q00 w8 [(24,_)] _ _
   rintro v ⟨va,vn,vc,ps,rfl,hv⟩
   simp only [Q00]
   refine ⟨rfl,?_⟩
   go_simp
   exact Below.refl _ _
  refine Q07 6 (TlxW L) rfl (of_decide_eq_true rfl) (TlxW.mono _) (fun w8 hw8=>?_) ?_
  ·change Q00 w8 [(25,_)] _ _
   rintro v ⟨va,vn,vc,ps,rfl,hv⟩
   simp only [Q00]
   refine ⟨rfl,?_⟩
   go_simp
   exact ⟨Below.refl _ _,_,_,_,_,rfl,hv⟩
  (refine Q01 (by rfl) (fun K hK=>?_);go_simp;refine hK _ ?_;clear hK K)
  refine Q09 ?_
  intro u2 hb2 v20 _ v22 _ v23 _ v24 _ v25 _ v6 h6
  change Q00 u2 [] _ _
  simp only [Q00,List.drop_succ_cons,List.drop_zero,List.drop_nil]
  obtain ⟨va,vn,vc,ps,rfl,hv,hm⟩:=h6
  try simp only [Act.put,Qzs]
  go_wp2_with fail
  go_ret2
  obtain ⟨V,hV,hVQ⟩:=HG.out
  exact ⟨V,0,hV,by rw [hVQ,HL.out];exact MkP.of hv hm (Below.then hbel3 hb2)⟩
 ·have hEi:((E:Int)==0)=false:=beq_eq_false_iff_ne.2 (by omega)
  have HL:Hid (psV Q E SB=([],(E:Int))):=Qhd (by unfold psV;rw [if_neg hE])
  clear hE
  go_wp2_with fail
  go_ret2
  obtain ⟨V,hV,hVQ⟩:=HG.out
  exact ⟨V,E,hV,by rw [hVQ,HL.out];exact MkP.nil hbel3⟩
def Stays (xs cs cs':List Value):Prop:=∀ off,(∀ (j:Nat) u,xs[j]?=some u→cs[off+j]?=some u)→∀ (j:Nat) u,xs[j]?=some u→cs'[off+j]?=some u
theorem RowOf.offI {α:Type}{f:α→List Value}{size:Nat}(hf:∀ x,(f x).length=size)(hsz:0<size){w w':World}{v:Value}{g:Nat}{l:List α}{e:TypeId}{cs cs':List Value}(h:RowOf f size w v l)(hz:Blk e w g cs)(hz':Blk e w' g cs')(hg:w.grownBy w' (some g))(hno:∀ x∈l,Stays (f x) cs cs'):RowOf f size w' v l:=by
 obtain ⟨a,c,rfl,_⟩:=h.form
 obtain ⟨h0,a',c',hv,h1,h2,h3⟩:=h
 simp only [Value.slice.injEq] at hv
 obtain ⟨rfl,_,rfl⟩:=hv
 refine ⟨h0,_,_,rfl,h1,h2,?_⟩
 rcases h3 with h3|⟨b,off,s,rfl,hs,hc⟩
 ·exact .inl h3
 ·refine .inr ⟨b,off,s,rfl,hs,fun j u hu=>?_⟩
  have hcc:=hc j u hu
  by_cases hb:b=g
  ·subst hb
   have hj:j<l.length*size:=by rw [←Q18 hf];exact (List.getElem?_eq_some_iff.1 hu).1
   have hk:j / size<l.length:=Nat.div_lt_of_lt_mul (by rw [Nat.mul_comm];exact hj)
   have hm:=Nat.mod_lt j hsz
   have e1:j / size*size+j % size=j:=by rw [Nat.mul_comm];exact Nat.div_add_mod j size
   have hfl:∀ i,i<size→(l.flatMap f)[j / size*size+i]?=(f l[j / size])[i]?:=fun i hi=>Q4j hf l (j / size) hk i hi
   have hx:=hno l[j / size] (List.getElem_mem hk) (off+j / size*size) (fun i x hi=>by
    have hi2:i<size:=by
     have:=(List.getElem?_eq_some_iff.1 hi).1
     rwa [hf] at this
    have:=hc (j / size*size+i) x (by rw [hfl i hi2];exact hi)
    rw [hz.cell] at this
    rw [←this];congr 1;omega) (j % size) u (by rw [←hfl _ hm,e1];exact hu)
   rw [hz'.cell,←hx];congr 1;omega
  ·have hlt:=World.block_lt_of_cell? w _ hcc
   rw [←hcc]
   exact World.cell?_of_block (w:=w) (hg.block b hlt (by simpa using hb))
theorem Qh3:∀ ks:List Nd,((smN ks).map fun k=>min k.length 1).sum=manyP ks
 | []=>rfl
 | k::ks=>by
  simp only [smN,manyP,List.map_cons,List.sum_cons,Qh3 ks]
  by_cases h:k.kd=0
  ·simp [h]
  ·rw [if_neg h,if_neg h]
   have:(sumB (cdN k)).length=32:=Q0i _
   omega
theorem sm_len:∀ ks:List Nd,(smN ks).length=ks.length
 | []=>rfl
 | k::ks=>by simp only [smN,List.length_cons,sm_len ks]
theorem sm_ok:∀ ks:List Nd,((smN ks).all fun t=>sumOk t.length true)=true
 | []=>rfl
 | k::ks=>by
  simp only [smN,List.all_cons,sm_ok ks,Bool.and_true]
  by_cases h:k.kd=0
  ·rw [if_pos h];rfl
  ·rw [if_neg h]
   have:(sumB (cdN k)).length=32:=Q0i _
   unfold sumOk;rw [this];rfl
theorem Q7k {p:List UInt8}(h:half p=true):wrongB p=false:=by
 unfold half at h
 unfold wrongB
 rw [List.all_eq_true] at h
 rw [List.any_eq_false]
 intro x hx
 have:=h x hx
 simp only [decide_eq_true_eq] at this ⊢
 omega
theorem Qkj {d:Nat}:∀ (t:Nd),rgt d t=true→t.kd≠0→cdN t≠[]
 | .mk kd pv p vv v kv ks,h,hk=>by
  have h0:kd≠0:=hk
  have hok:shOk kd p v (if kd=1 then [] else smN ks)=true:=by
   unfold rgt at h
   unfold shOk
   rw [if_neg h0] at h ⊢
   by_cases h1:kd=1
   ·rw [if_pos h1] at h ⊢
    simp only [Bool.and_eq_true,decide_eq_true_eq] at h
    rw [Q7k h.1.1.1]
    simp only [Bool.not_false,Bool.true_and,Bool.and_eq_true,decide_eq_true_eq]
    omega
   ·rw [if_neg h1] at h ⊢
    rw [if_neg h1]
    by_cases h2:kd=2
    ·rw [if_pos h2] at h ⊢
     simp only [Bool.and_eq_true,decide_eq_true_eq] at h
     obtain ⟨k,rfl⟩:=List.length_eq_one_iff.1 h.1.1.2
     have hk3:k.kd=3:=by simpa using h.1.2
     have hl:(sumB (cdN k)).length=32:=Q0i _
     rw [Q7k h.1.1.1.2]
     simp only [Bool.not_false,Bool.true_and,Bool.and_eq_true,decide_eq_true_eq]
     refine ⟨⟨by omega,rfl⟩,?_⟩
     show ((if k.kd=0 then [] else sumB (cdN k)):List UInt8).length=32
     rw [if_neg (by omega)]
     exact hl
    ·rw [if_neg h2] at h ⊢
     by_cases h3:kd=3
     ·rw [if_pos h3] at h ⊢
      simp only [Bool.and_eq_true,decide_eq_true_eq] at h ⊢
      refine ⟨⟨⟨by rw [sm_len];exact h.1.1.1.1,h.1.1.1.2⟩,sm_ok ks⟩,?_⟩
      unfold manyB
      rw [Qh3]
      exact h.2
     ·rw [if_neg h3] at h;cases h
  unfold cdN
  rw [if_pos hok]
  unfold shB
  rw [if_neg h0]
  split
  ·unfold lsB;simp [Q8u]
  ·split
   ·unfold lsB;simp [Q8u]
   ·unfold lsB;simp [Q8u]
theorem Qde {d:Nat}(t:Nd)(h:rgt d t=true):hdN t≠[]:=by
 by_cases h0:t.kd=0
 ·unfold hdN whN
  rw [if_pos h0]
  decide
 ·rw [hdN_kd h0];exact Qkj t h h0
theorem Qi7:∀ (n:Nat)(t:Nd)(d:Nat)(p:List UInt8),rgt d t=true→(∀ x∈p,x.toNat<16)→∀ c∈dn n t p,c≠[]
 | 0,t,d,p,h,_=>by
  intro c hc
  rw [dn,List.mem_singleton] at hc
  rw [hc];exact Qde t h
 | n+1,.mk kd pv path vv v kv ks,d,p,h,hx=>by
  intro c hc
  have hh:=Qde _ h
  cases hr:rst kd path p with
  | none =>
   rw [dn,hr,List.mem_singleton] at hc
   rw [hc];exact hh
  | some x =>
   obtain ⟨j,q⟩:=x
   obtain ⟨k,d',hk,hrk,_,_⟩:=Q4r h hr hx
   obtain ⟨hq,_,_⟩:=Q48 hr hx
   rw [dn,hr] at hc
   simp only [hk] at hc
   rcases List.mem_cons.1 hc with rfl|hc
   ·exact hh
   ·by_cases hk0:k.kd=0
    ·rw [if_pos hk0] at hc;cases hc
    ·rw [if_neg hk0] at hc
     exact Qi7 n k d' q hrk hq c hc
theorem Qc4 (T:Pn)(key:List UInt8):∀ c∈wyP T key,c≠[]:=by
 unfold wyP
 split
 ·rename_i h;exact Qi7 _ _ 0 _ h (Q4g key)
 ·intro c hc;cases hc
theorem Qcs (H:List Hol)(A:List UInt8):∀ c∈(pvP H A).1,c≠[]:=by
 unfold pvP
 split
 ·exact Qc4 _ _
 ·intro c hc;cases hc
theorem Qcv (S:List (Nat × Nat))(E:Nat)(SB:List UInt8):∀ c∈(psV S E SB).1,c≠[]:=by
 unfold psV
 split
 ·exact Qc4 _ _
 ·intro c hc;cases hc
def SvR (H:List Hol)(A SB:List UInt8)(k:Int)(P:List (List UInt8))(C:List UInt8)(E:Int):Prop :=
 (k=1∧P=(pvP H A).1∧C=[]∧E=(pvP H A).2)∨(k=2∧C=[]∧∃ V e,GetR H (numL A) V e∧P=(psV V.2.2.2 e SB).1∧E=(psV V.2.2.2 e SB).2) ∨
 (k=3∧P=[]∧∃ V e,GetR H (numL A) V e∧C=V.2.2.1∧E=(e:Nat))∨((k≠1∧k≠2∧k≠3)∧P=[]∧C=[]∧E=if rightB H=true then 30 else 1)
theorem SvR.one {H:List Hol}{A SB:List UInt8}{k:Int}{P P':List (List UInt8)}{C C':List UInt8}{E E':Int}(h:SvR H A SB k P C E)(h':SvR H A SB k P' C' E'):P=P'∧C=C'∧E=E':=by
 rcases h with ⟨a1,rfl,rfl,rfl⟩|⟨a1,rfl,V,e,g,rfl,rfl⟩|⟨a1,rfl,V,e,g,rfl,rfl⟩|⟨a1,rfl,rfl,rfl⟩ <;>
  rcases h' with ⟨b1,rfl,rfl,rfl⟩|⟨b1,rfl,V',e',g',rfl,rfl⟩|⟨b1,rfl,V',e',g',rfl,rfl⟩|⟨b1,rfl,rfl,rfl⟩<;>try omega
 ·exact ⟨rfl,rfl,rfl⟩
 ·obtain ⟨rfl,rfl⟩:=GetR.one g g';exact ⟨rfl,rfl,rfl⟩
 ·obtain ⟨rfl,rfl⟩:=GetR.one g g';exact ⟨rfl,rfl,rfl⟩
 ·exact ⟨rfl,rfl,rfl⟩
theorem SvR.bad {H:List Hol}{A SB:List UInt8}(k:Int){V:Nat × Nat × List UInt8 × List (Nat × Nat)}{e:Nat}(g:GetR H (numL A) V e)(he:e≠0):SvR H A SB k [] [] (e:Nat):=by
 have g0:=g
 rcases g with ⟨hr,rfl,rfl⟩|⟨_,rfl,_⟩
 ·by_cases h1:k=1
  ·exact .inl ⟨h1,by unfold pvP;rw [hr];rfl,rfl,by unfold pvP;rw [hr];rfl⟩
  ·by_cases h2:k=2
   ·exact .inr (.inl ⟨h2,rfl,_,_,g0,rfl,rfl⟩)
   ·by_cases h3:k=3
    ·exact .inr (.inr (.inl ⟨h3,rfl,_,_,g0,rfl,rfl⟩))
    ·exact .inr (.inr (.inr ⟨⟨h1,h2,h3⟩,rfl,rfl,by rw [hr];rfl⟩))
 ·exact absurd rfl he
theorem GetR.right {H:List Hol}{t:Nat}{V:Nat × Nat × List UInt8 × List (Nat × Nat)}(g:GetR H t V 0):rightB H=true:=by
 rcases g with ⟨_,h,_⟩|⟨h,_⟩
 ·omega
 ·exact h
def z2v:List Value:=[.slice none 0 0,.slice none 0 0]
theorem aggRep:Agg Tryz.prog 53 2:=⟨_,Tryz.underlying53,rfl,by kernel_rfl⟩
theorem aggReq:Agg Tryz.prog 51 13:=⟨_,Tryz.underlying51,rfl,by kernel_rfl⟩
def rqc (k:Int)(A:List UInt8)(K:Nat):List Value:=[.int .i64 k]++(by8 A++wcs K)
theorem Ql2 (k:Int){A:List UInt8}(hA:A.length=8)(K:Nat):(rqc k A K).length=13:=by
 have:=Q0u K
 simp only [rqc,List.length_append,Q0n,List.length_singleton];omega
theorem rqc_a (k:Int){A:List UInt8}(hA:A.length=8)(K:Nat):((rqc k A K).drop 1).take 8=by8 A:=Q3o [.int .i64 k] (by8 A) (wcs K) 1 8 rfl (by rw [Q0n];exact hA)
theorem rqc_k (k:Int){A:List UInt8}(hA:A.length=8)(K:Nat):((rqc k A K).drop 9).take 4=wcs K:=by
 have:rqc k A K=([.int .i64 k]++by8 A)++wcs K:=by unfold rqc;rw [List.append_assoc]
 rw [this]
 exact Qdg _ _ 9 4 (by rw [List.length_append,Q0n,hA];rfl) (Q0u K)
theorem Bytes.offR {w w':World}{g:Nat}{v:Value}{l:List UInt8}{cs':List Value}{e:TypeId}(h:Bytes w v l)(hz:Blk e w g z2v)(hz':Blk e w' g cs')(hg:w.grownBy w' (some g)):Bytes w' v l :=
 RowOf.offI (size:=1) (fun _=>rfl) (by omega) h hz hz' hg (fun x _=>fun off hh=>by
  have:=hh 0 _ rfl
  match off,this with
  | 0,h=>simp [z2v,u8v] at h
  | 1,h=>simp [z2v,u8v] at h
  | n+2,h=>simp [z2v] at h)
theorem Texts.offR {w w':World}{g:Nat}{v:Value}{ps:List (Value × List UInt8)}{cs':List Value}{e:TypeId}(h:Texts w v ps)(hne:∀ c∈ps.map (·.2),c≠[])(hz:Blk e w g z2v)(hz':Blk e w' g cs')(hg:w.grownBy w' (some g)):Texts w' v ps:=by
 refine ⟨RowOf.offI (size:=1) (fun _=>rfl) (by omega) h.1 hz hz' hg (fun q hq=>?_),fun q hq=>Bytes.offR (h.2 q hq) hz hz' hg⟩
 obtain ⟨a,c,h2,_⟩:=(h.2 q hq).form
 have hl:q.2.length≠0:=fun e=>hne q.2 (List.mem_map.2 ⟨q,hq,rfl⟩) (List.eq_nil_of_length_eq_zero e)
 show Stays [q.1] z2v cs'
 rw [h2]
 intro off hh
 have:=hh 0 _ rfl
 match off,this with
 | 0,h=>simp [z2v] at h;omega
 | 1,h=>simp [z2v] at h;omega
 | n+2,h=>simp [z2v] at h
def SvPost (R:List (List UInt8)→List UInt8→Int→Prop)(w:World)(e:Ending)(w':World):Prop :=
 ∃ (P:List (List UInt8)) (C:List UInt8) (E:Int) (a:Option Addr) (n c:Nat) (ps:List (Value × List UInt8)) (ca:Option Addr) (cn cc:Nat),e=.returned (.tuple #[.agg #[.slice a n c,.slice ca cn cc],.int .i64 E])∧R P C E∧Texts w' (.slice a n c) ps∧ps.map (·.2)=P∧Bytes w' (.slice ca cn cc) C∧Below w.heap.size w w'
theorem Texts.nil (w:World):Texts w (.slice none 0 0) []:=⟨RowOf.nil tcell 1 w,fun q hq=>by cases hq⟩
end Go.Proofs.YtbdmkfjgnjfjbaaGreat
