/- world.CheckSlot, the reference's OCheckSlot (gen_wc.py printed it). | The walk of the law WorldChecks. -/
import Derived.Test.YtcgpjceopnfahaaGreatWorldChecksK41
set_option linter.unusedSimpArgs false
set_option linter.unusedVariables false
set_option maxHeartbeats 4000000
set_option maxRecDepth 100000
namespace Go.Proofs.YtcgpjceopnfahaaGreat
open Go.RowKit
def slC (r:List UInt8 × Int):Nat × Int:=if r.2=0 then (numV r.1,numE r.1) else (0,r.2)
def WcPost (r:List UInt8 × Int)(w:World)(e:Ending)(w':World):Prop:=e=.returned (.tuple #[.agg (wcs (slC r).1).toArray,.int .i64 (slC r).2])∧Below w.heap.size w w'
theorem checkSlot_any (St:List UInt8)(hSt:St.length=32)(K:Nat)(ca:Option Addr)(cn cc:Nat)(ps:List (Value × List UInt8))(hcn:ps.length=cn)(w:World)(hc:Texts w (.slice ca cn cc) ps)(hN:cn≤1048576)(hNs:∀ q∈ps,q.2.length≤1048576):Calls Tryz.prog 23 #[.agg (St.map u8v).toArray,.agg (wcs K).toArray,.slice ca cn cc] w (WcPost (chk St (sumB (wb K)) (ps.map (·.2))) w):=by
 obtain ⟨w1,hw1⟩:∃ w1,w1=((w.alloc (.cells (St.map u8v).toArray 30)).alloc (.cells (wcs K).toArray 24)).alloc (.cells z4.toArray 24):=⟨_,rfl⟩
 have hs:Blk 30 w1 w.heap.size (St.map u8v):=by rw [hw1];exact ((Blk.new w _ _).alloc _).alloc _
 have ha:Blk 24 w1 (w.heap.size+1) (wcs K):=by
  have:=(Blk.new (w.alloc (.cells (St.map u8v).toArray 30)) 24 (wcs K)).alloc (.cells z4.toArray 24)
  simp only [World.size_alloc] at this
  rw [hw1];exact this
 have hz:Blk 24 w1 (w.heap.size+2) z4:=by
  have:=Blk.new ((w.alloc (.cells (St.map u8v).toArray 30)).alloc (.cells (wcs K).toArray 24)) 24 z4
  simp only [World.size_alloc] at this
  rw [hw1];exact this
 have hbel:Below w.heap.size w w1:=by rw [hw1];exact (((Below.refl _ _).alloc (Nat.le_refl _) _).alloc (by simp) _).alloc (by simp;omega) _
 have hwe:w1=((w.alloc (.cells (St.map u8v).toArray 30)).alloc (.cells (wcs K).toArray 24)).alloc (.cells #[.int .u64 0,.int .u64 0,.int .u64 0,.int .u64 0] 24):=hw1
 have hzl:z4.length=4:=rfl
 have hzo:∀ u∈z4,u.oneCell'=true:=by rw [←z4_zero];exact wcs_one 0
 have hKl:(wb K).length=32:=wb_len K
 have hSl:(sumB (wb K)).length=32:=outB_len _
 have c0:∀ u:World,Calls Tryz.prog 64 #[.agg (wcs K).toArray] u fun e w'=>e=.returned (.agg (by8 (wb K)).toArray)∧Below u.heap.size u w':=fun u=>bytes_any K u
 have c00:∀ (g:Nat) (u:World),Blk 30 u g (by8 (wb K))→Calls Tryz.prog 37 #[.slice (some ⟨g,0,none⟩) 32 32] u fun e w'=>e=.returned (.agg (by8 (sumB (wb K))).toArray)∧Below u.heap.size u w':=fun g u hu=>sum_any (some ⟨g,0,none⟩) 32 32 (wb K) hKl u (hash_bytes hu hKl)
 have c1:=fun (a:Option Addr) (c:Nat) u (hk:Bytes u (.slice a 32 c) (sumB (wb K))) (hu:Below w1.heap.size w1 u)=>check_any St hSt a 32 c (sumB (wb K)) hSl ca cn cc ps hcn u hk ((hc.below hbel).below hu) hN hNs
 have c3:=fun (a:Option Addr) (c:Nat) (b:List UInt8) u (hu:Bytes u (.slice a b.length c) b)=>tonum_any a c b u hu
 obtain ⟨R,hR⟩:∃ R,R=chk St (sumB (wb K)) (ps.map (·.2)):=⟨_,rfl⟩
 simp only [←hR] at c1 ⊢
 obtain ⟨V,E⟩:=R
 have hSC':∀ P:List UInt8 × Int,slC P=if P.2=0 then (numV P.1,numE P.1) else (0,P.2):=fun _=>rfl
 unfold ShwPost at c1
 dsimp only at c1
 obtain ⟨SB,hSB⟩:∃ B,B=sumB (wb K):=⟨_,rfl⟩
 simp only [←hSB] at c00 c1 hSl
 obtain ⟨KB,hKB⟩:∃ B,B=wb K:=⟨_,rfl⟩
 simp only [←hKB] at c0 c00 hKl
 obtain ⟨SC,hSC⟩:∃ C,C=St.map u8v:=⟨_,rfl⟩
 have hSCl:SC.length=32:=by rw [hSC,List.length_map];exact hSt
 have hAl:=wcs_len K
 obtain ⟨AC,hAC⟩:∃ C,C=wcs K:=⟨_,rfl⟩
 rw [←hSC,←hAC] at hwe
 rw [←hSC] at hs
 rw [←hAC] at ha hAl
 simp only [←hSC] at c1
 simp only [←hAC] at c0
 rw [←hSC,←hAC]
 have HSl:=Lib.hid hSl
 have HKl:=Lib.hid hKl
 have HAl:=Lib.hid hAl
 have HSCl:=Lib.hid hSCl
 have HWe:=Lib.hid hwe
 have C0:=Lib.hid c0
 have C00:=Lib.hid c00
 have C1:=Lib.hid c1
 have C3:=Lib.hid c3
 have HS':=Lib.hid hSC'
 have S1:=Lib.hid hs.all0
 have A1:=Lib.hid ha.all0
 clear hw1 hwe c0 c00 c1 c3 hR hSB hKB hSC hAC hSl hKl hAl hSCl hSt hcn hc hN hNs hSC'
 have hSl2:(by8 SB).length=32:=by rw [by8_len];exact HSl.out
 have HSo:=Lib.hid (u8_one SB)
 have hKl2:(by8 KB).length=32:=by rw [by8_len];exact HKl.out
 have HKo:=Lib.hid (u8_one KB)
 go_enter Tryz.func23,Tryz.ntmps23
 go_upto_region 3 with (first
  |(rw [←HWe.out])
  |((with_reducible show wpList _ _ _ (⟨some 12,_,_,_,_,_⟩::_) _ _);refine wpList_loadW (o:=⟨some 12,_,_,_,_,_⟩) 24 (.tmp 4) (by rfl) (w.heap.size+1) 0 (by rfl) aggWord HAl.out A1.out (by rfl) ?_)
  |(go_at_call 64;(with_reducible refine (C0.out _).mono ?_);rintro e w2 ⟨rfl,b2⟩;have n2:=Blk.new w2 30 zh)
  |((with_reducible show wpList _ _ _ (⟨none,.store _ _ (.tmp 13),_,_,_,_⟩::_) _ _);refine wpList_storeA (o:=⟨none,_,_,_,_,_⟩) (by rfl) 30 (.tmp 8) (.tmp 13) (by rfl) w2.heap.size (by8 KB) (by rfl) (by rfl) aggHash' n2 hKl2 (by rfl) HKo.out ((Below.refl w2.heap.size w2).alloc (Nat.le_refl _) _) (Nat.le_refl _) ?_;intro w3 h3 b3 _;have s3:=sl32 w2.heap.size 0 w3;have b13:=Below.then b2 b3)
  |(go_at_call 37;(with_reducible refine (C00.out _ _ h3).mono ?_);rintro e w4 ⟨rfl,b4⟩;have n4:=Blk.new w4 30 zh)
  |((with_reducible show wpList _ _ _ (⟨none,.store _ _ (.tmp 15),_,_,_,_⟩::_) _ _);refine wpList_storeA (o:=⟨none,_,_,_,_,_⟩) (by rfl) 30 (.tmp 9) (.tmp 15) (by rfl) w4.heap.size (by8 SB) (by rfl) (by rfl) aggHash' n4 hSl2 (by rfl) HSo.out ((Below.refl w4.heap.size w4).alloc (Nat.le_refl _) _) (Nat.le_refl _) ?_;intro w5 h5 b5 _))
 have b15:=Below.then b13 (Below.then b4 b5)
 have hz5:=hz.kept b15
 have hbel5:=Below.then hbel b15
 have hfk:Hid (∀ u,Below w5.heap.size w5 u→Bytes u (.slice (some ⟨w4.heap.size,0,none⟩) 32 32) SB):=Lib.hid fun u hu=>hash_bytes (h5.kept hu) HSl.out
 have S5:=Lib.hid (hs.kept b15).all0
 have s32:=fun off u=>sl32 w4.heap.size off u
 clear h3 h5 n2 n4 s3 b2 b3 b4 b5 b13 hs ha hz hSl2 hKl2
 refine wp_region_typed w5 9 (by kernel_rfl) (by kernel_rfl) (Below.refl _ _) ?_;simp only [List.take_succ_cons,List.take_zero,List.take_nil]
 (refine wpX_step (by rfl) (fun K hK=>?_);rw [if_pos (by rfl)];refine ⟨_,fun u=>const_loadm _ (.tmp 3) (by rfl) _ _ (by rfl) aggHash' HSCl.out (rangeAt.ext S5.out u),hK _ ?_⟩;clear hK K;simp only [Act.put,List.setIfInBounds_toArray,List.set_cons_zero,List.set_cons_succ])
 iterate 2 (refine wpX_step (by rfl) (fun K hK=>?_);go_simp;first|(refine hK _ ?_;clear hK K)|(apply Exists.intro;refine ⟨fun _=>?_,hK _ ?_⟩;fail;clear hK K))
 refine wpX_rel 20 (TupW V E) rfl (of_decide_eq_true rfl) (TupW.mono _ _) (fun w7 hw7=>?_) ?_
 ·simp only [relOf,List.filter_nil,forallRel]
  refine ⟨rfl,?_⟩
  go_simp
  refine (C1.out _ _ w7 (hfk.out w7 hw7) (Below.then b15 hw7)).mono ?_
  rintro e w8 ⟨va,vn,vc,rfl,b8,hv⟩
  exact ⟨_,rfl,⟨va,vn,vc,rfl,hv⟩,b8⟩
 refine wpX_rel 16 (TupW V E) rfl (of_decide_eq_true rfl) (TupW.mono _ _) (fun w7 hw7=>?_) ?_
 ·change forallRel w7 [(20,_)] _ _
  rintro v ⟨va,vn,vc,rfl,hv⟩
  simp only [forallRel]
  refine ⟨rfl,?_⟩
  go_simp
  exact ⟨Below.refl _ _,_,_,_,rfl,hv⟩
 refine wpX_rel 21 (SlW V) rfl (of_decide_eq_true rfl) (SlW.mono _) (fun w7 hw7=>?_) ?_
 ·change forallRel w7 [(16,_)] _ _
  rintro v ⟨va,vn,vc,rfl,hv⟩
  simp only [forallRel]
  refine ⟨rfl,?_⟩
  go_simp
  exact ⟨Below.refl _ _,_,_,_,rfl,hv⟩
 refine wpX_eq (.int .i64 E) (fun w7 hw7=>?_) ?_
 ·change forallRel w7 [(16,_)] _ _
  rintro v ⟨va,vn,vc,rfl,hv⟩
  simp only [forallRel]
  refine ⟨rfl,?_⟩
  go_simp
  exact Below.refl _ _
 refine wpX_rel 10 (SlW V) rfl (of_decide_eq_true rfl) (SlW.mono _) (fun w7 hw7=>?_) ?_
 ·change forallRel w7 [(21,_)] _ _
  rintro v ⟨va,vn,vc,rfl,hv⟩
  simp only [forallRel]
  refine ⟨rfl,?_⟩
  go_simp
  exact ⟨Below.refl _ _,_,_,_,rfl,hv⟩
 (refine wpX_step (by rfl) (fun K hK=>?_);go_simp;first|(refine hK _ ?_;clear hK K)|(apply Exists.intro;refine ⟨fun _=>?_,hK _ ?_⟩;fail;clear hK K))
 refine wpX_nil ?_
 intro u2 hb2 v20 _ v16 _ v21 _ v9 h9
 change forallRel u2 [] _ _
 simp only [forallRel,List.drop_succ_cons,List.drop_zero,List.drop_nil]
 obtain ⟨va,vn,vc,rfl,hv⟩:=h9
 have hz6:=Blk.kept hz5 hb2
 have hbel6:=Below.then hbel5 hb2
 have Hvl:=Lib.hid hv.fits.1
 clear s32
 try simp only [Act.put,List.setIfInBounds_toArray,List.set_cons_zero,List.set_cons_succ]
 by_cases hE:E=0
 ·subst hE
  have HR:Hid (slC (V,0)=(numV V,numE V)):=Lib.hid (by rw [HS'.out];rfl)
  have cr:=C3.out va vc V u2 (by rw [←Hvl.out];exact hv)
  rw [←Hvl.out] at cr
  change Calls _ _ _ _ (fun e w'=>e=.returned (.tuple #[.agg (wcs (numV V)).toArray,.int .i64 (numE V)])∧Below u2.heap.size u2 w') at cr
  obtain ⟨NV,hNV⟩:∃ N,N=numV V:=⟨_,rfl⟩
  obtain ⟨NE,hNE⟩:∃ N,N=numE V:=⟨_,rfl⟩
  rw [←hNV,←hNE] at cr
  have HR2:Hid (slC (V,0)=(NV,NE)):=Lib.hid (by rw [HR.out,hNV,hNE])
  have hnl:=wcs_len NV
  have hno:=wcs_one NV
  obtain ⟨NC,hNC⟩:∃ C,C=wcs NV:=⟨_,rfl⟩
  rw [←hNC] at cr hnl hno
  have HNC:=Lib.hid hNC
  have Cr:=Lib.hid cr
  have HNo:=Lib.hid hno
  clear cr hNV hNE hNC hno
  go_wp2_with (first
   |(go_at_call 43;(with_reducible refine Cr.out.mono ?_);rintro e w7 ⟨rfl,b7⟩;have hz7:=hz6.kept b7;have hbel7:=Below.then hbel6 b7)
   |((with_reducible show wpList _ _ _ (⟨none,.store _ _ (.tmp 29),_,_,_,_⟩::_) _ _);refine wpList_storeA (o:=⟨none,_,_,_,_,_⟩) (by rfl) 24 (.tmp 6) (.tmp 29) (by rfl) (w.heap.size+2) NC (by rfl) (by rfl) aggWord hz7 hnl hzl HNo.out hbel7 (by omega) ?_;intro w8 h8 bel8 _))
  exact bodyPost_ret (v:=.tuple #[.agg NC.toArray,.int .i64 NE]) (results_blk_tmp rfl _ _ (w.heap.size+2) aggWord h8 hnl rfl rfl) rfl (by unfold WcPost;rw [HR2.out];exact ⟨by rw [HNC.out],bel8⟩)
 ·have hEi:(E==0)=false:=beq_eq_false_iff_ne.2 hE
  have HR2:Hid (slC (V,E)=(0,E)):=Lib.hid (by rw [HS'.out];exact if_neg hE)
  go_wp2_with ((with_reducible show wpList _ _ _ (⟨none,.store _ _ (.tmp 25),_,_,_,_⟩::_) _ _);refine wpList_storeA (o:=⟨none,_,_,_,_,_⟩) (by rfl) 24 (.tmp 6) (.tmp 25) (by rfl) (w.heap.size+2) z4 (by rfl) (by rfl) aggWord hz6 hzl hzl hzo hbel6 (by omega) ?_;intro w8 h8 bel8 _)
  exact bodyPost_ret (v:=.tuple #[.agg z4.toArray,.int .i64 E]) (results_blk_tmp rfl _ _ (w.heap.size+2) aggWord h8 hzl rfl rfl) rfl (by unfold WcPost;rw [HR2.out];exact ⟨by rw [←z4_zero],bel8⟩)
theorem ocheckSlot_any (St:List UInt8)(hSt:St.length=32)(K:Nat)(ca:Option Addr)(cn cc:Nat)(ps:List (Value × List UInt8))(hcn:ps.length=cn)(w:World)(hc:Texts w (.slice ca cn cc) ps)(hN:cn≤1048576)(hNs:∀ q∈ps,q.2.length≤1048576):Calls Tryz.prog 24 #[.agg (St.map u8v).toArray,.agg (wcs K).toArray,.slice ca cn cc] w (WcPost (chk St (sumB (wb K)) (ps.map (·.2))) w):=by
 obtain ⟨w1,hw1⟩:∃ w1,w1=((w.alloc (.cells (St.map u8v).toArray 30)).alloc (.cells (wcs K).toArray 24)).alloc (.cells z4.toArray 24):=⟨_,rfl⟩
 have hs:Blk 30 w1 w.heap.size (St.map u8v):=by rw [hw1];exact ((Blk.new w _ _).alloc _).alloc _
 have ha:Blk 24 w1 (w.heap.size+1) (wcs K):=by
  have:=(Blk.new (w.alloc (.cells (St.map u8v).toArray 30)) 24 (wcs K)).alloc (.cells z4.toArray 24)
  simp only [World.size_alloc] at this
  rw [hw1];exact this
 have hz:Blk 24 w1 (w.heap.size+2) z4:=by
  have:=Blk.new ((w.alloc (.cells (St.map u8v).toArray 30)).alloc (.cells (wcs K).toArray 24)) 24 z4
  simp only [World.size_alloc] at this
  rw [hw1];exact this
 have hbel:Below w.heap.size w w1:=by rw [hw1];exact (((Below.refl _ _).alloc (Nat.le_refl _) _).alloc (by simp) _).alloc (by simp;omega) _
 have hwe:w1=((w.alloc (.cells (St.map u8v).toArray 30)).alloc (.cells (wcs K).toArray 24)).alloc (.cells #[.int .u64 0,.int .u64 0,.int .u64 0,.int .u64 0] 24):=hw1
 have hzl:z4.length=4:=rfl
 have hzo:∀ u∈z4,u.oneCell'=true:=by rw [←z4_zero];exact wcs_one 0
 have hKl:(wb K).length=32:=wb_len K
 have hSl:(sumB (wb K)).length=32:=outB_len _
 have c0:=fun u=>wbytes_any K u
 have c00:=fun (a:Option Addr) (c:Nat) u (hu:Bytes u (.slice a 32 c) (wb K))=>sumKey_any a 32 c (wb K) hKl u hu (by omega)
 have c1:=fun (a:Option Addr) (c:Nat) u (hk:Bytes u (.slice a 32 c) (sumB (wb K))) (hu:Below w1.heap.size w1 u)=>icheck_any St hSt a 32 c (sumB (wb K)) hSl ca cn cc ps hcn u hk ((hc.below hbel).below hu) hN hNs
 have c3:=fun (a:Option Addr) (c:Nat) (b:List UInt8) u (hu:Bytes u (.slice a b.length c) b)=>ptonum_any a c b u hu
 change ∀ u,Calls Tryz.prog 66 #[.agg (wcs K).toArray] u _ at c0
 obtain ⟨R,hR⟩:∃ R,R=chk St (sumB (wb K)) (ps.map (·.2)):=⟨_,rfl⟩
 simp only [←hR] at c1 ⊢
 obtain ⟨V,E⟩:=R
 have hSC':∀ P:List UInt8 × Int,slC P=if P.2=0 then (numV P.1,numE P.1) else (0,P.2):=fun _=>rfl
 unfold ShwPost at c1
 dsimp only at c1
 obtain ⟨SB,hSB⟩:∃ B,B=sumB (wb K):=⟨_,rfl⟩
 simp only [←hSB] at c00 c1 hSl
 obtain ⟨KB,hKB⟩:∃ B,B=wb K:=⟨_,rfl⟩
 simp only [←hKB] at c0 c00 hKl
 obtain ⟨SC,hSC⟩:∃ C,C=St.map u8v:=⟨_,rfl⟩
 have hSCl:SC.length=32:=by rw [hSC,List.length_map];exact hSt
 have hAl:=wcs_len K
 obtain ⟨AC,hAC⟩:∃ C,C=wcs K:=⟨_,rfl⟩
 rw [←hSC,←hAC] at hwe
 rw [←hSC] at hs
 rw [←hAC] at ha hAl
 simp only [←hSC] at c1
 simp only [←hAC] at c0
 rw [←hSC,←hAC]
 have HSl:=Lib.hid hSl
 have HKl:=Lib.hid hKl
 have HAl:=Lib.hid hAl
 have HSCl:=Lib.hid hSCl
 have HWe:=Lib.hid hwe
 have C0:=Lib.hid c0
 have C00:=Lib.hid c00
 have C1:=Lib.hid c1
 have C3:=Lib.hid c3
 have HS':=Lib.hid hSC'
 have S1:=Lib.hid hs.all0
 have A1:=Lib.hid ha.all0
 clear hw1 hwe c0 c00 c1 c3 hR hSB hKB hSC hAC hSl hKl hAl hSCl hSt hcn hc hN hNs hSC'
 go_enter Tryz.func24,Tryz.ntmps24
 go_wp2_with (rw [←HWe.out])
 refine wp_region_typed w1 11 (by kernel_rfl) (by kernel_rfl) (Below.refl _ _) ?_;simp only [List.take_succ_cons,List.take_zero,List.take_nil]
 (refine wpX_step (by rfl) (fun K hK=>?_);rw [if_pos (by rfl)];refine ⟨_,fun u=>const_loadm _ (.tmp 3) (by rfl) _ _ (by rfl) aggHash' HSCl.out (rangeAt.ext S1.out u),hK _ ?_⟩;clear hK K;simp only [Act.put,List.setIfInBounds_toArray,List.set_cons_zero,List.set_cons_succ])
 (refine wpX_step (by rfl) (fun K hK=>?_);rw [if_pos (by rfl)];refine ⟨_,fun u=>const_loadm _ (.tmp 4) (by rfl) _ _ (by rfl) aggWord HAl.out (rangeAt.ext A1.out u),hK _ ?_⟩;clear hK K;simp only [Act.put,List.setIfInBounds_toArray,List.set_cons_zero,List.set_cons_succ])
 refine wpX_rel 13 (FrT 0 KB) rfl (of_decide_eq_true rfl) (FrT.mono _ _) (fun w7 hw7=>?_) ?_
 ·simp only [relOf,List.filter_nil,forallRel]
  refine ⟨rfl,?_⟩
  go_simp
  refine (C0.out w7).mono ?_
  rintro e w8 ⟨v,rfl,o8,b8⟩
  exact ⟨v,rfl,(FrT.own o8).lower (Nat.zero_le _),b8⟩
 refine wpX_rel 14 (FrT 0 SB) rfl (of_decide_eq_true rfl) (FrT.mono _ _) (fun w7 hw7=>?_) ?_
 ·change forallRel w7 [(13,_)] _ _
  intro v13 h13
  obtain ⟨ka,kc,rfl,_⟩:=h13.1.form' 32 HKl.out
  simp only [forallRel]
  refine ⟨rfl,?_⟩
  go_simp
  refine (C00.out _ _ w7 h13.1).mono ?_
  rintro e w8 ⟨v,rfl,o8,b8⟩
  exact ⟨v,rfl,o8.lower (Nat.zero_le _),b8⟩
 (refine wpX_step (by rfl) (fun K hK=>?_);go_simp;first|(refine hK _ ?_;clear hK K)|(apply Exists.intro;refine ⟨fun _=>?_,hK _ ?_⟩;fail;clear hK K))
 refine wpX_rel 16 (TupW V E) rfl (of_decide_eq_true rfl) (TupW.mono _ _) (fun w7 hw7=>?_) ?_
 ·change forallRel w7 [(14,_)] _ _
  intro v13 h13
  obtain ⟨ka,kc,rfl,_⟩:=h13.1.form' 32 HSl.out
  simp only [forallRel]
  refine ⟨rfl,?_⟩
  go_simp
  refine (C1.out _ _ w7 h13.1 hw7).mono ?_
  rintro e w8 ⟨va,vn,vc,rfl,b8,hv⟩
  exact ⟨_,rfl,⟨va,vn,vc,rfl,hv⟩,b8⟩
 refine wpX_rel 10 (TupW V E) rfl (of_decide_eq_true rfl) (TupW.mono _ _) (fun w7 hw7=>?_) ?_
 ·change forallRel w7 [(16,_)] _ _
  rintro v ⟨va,vn,vc,rfl,hv⟩
  simp only [forallRel]
  refine ⟨rfl,?_⟩
  go_simp
  exact ⟨Below.refl _ _,_,_,_,rfl,hv⟩
 refine wpX_rel 17 (SlW V) rfl (of_decide_eq_true rfl) (SlW.mono _) (fun w7 hw7=>?_) ?_
 ·change forallRel w7 [(10,_)] _ _
  rintro v ⟨va,vn,vc,rfl,hv⟩
  simp only [forallRel]
  refine ⟨rfl,?_⟩
  go_simp
  exact ⟨Below.refl _ _,_,_,_,rfl,hv⟩
 refine wpX_eq (.int .i64 E) (fun w7 hw7=>?_) ?_
 ·change forallRel w7 [(10,_)] _ _
  rintro v ⟨va,vn,vc,rfl,hv⟩
  simp only [forallRel]
  refine ⟨rfl,?_⟩
  go_simp
  exact Below.refl _ _
 refine wpX_rel 8 (SlW V) rfl (of_decide_eq_true rfl) (SlW.mono _) (fun w7 hw7=>?_) ?_
 ·change forallRel w7 [(17,_)] _ _
  rintro v ⟨va,vn,vc,rfl,hv⟩
  simp only [forallRel]
  refine ⟨rfl,?_⟩
  go_simp
  exact ⟨Below.refl _ _,_,_,_,rfl,hv⟩
 (refine wpX_step (by rfl) (fun K hK=>?_);go_simp;first|(refine hK _ ?_;clear hK K)|(apply Exists.intro;refine ⟨fun _=>?_,hK _ ?_⟩;fail;clear hK K))
 refine wpX_nil ?_
 intro u2 hb2 v13 _ v14 _ v16 _ v10 _ v17 _ v9 h9
 change forallRel u2 [] _ _
 simp only [forallRel,List.drop_succ_cons,List.drop_zero,List.drop_nil]
 obtain ⟨va,vn,vc,rfl,hv⟩:=h9
 have hz6:=Blk.kept hz hb2
 have hbel6:=Below.then hbel hb2
 have Hvl:=Lib.hid hv.fits.1
 skip
 try simp only [Act.put,List.setIfInBounds_toArray,List.set_cons_zero,List.set_cons_succ]
 by_cases hE:E=0
 ·subst hE
  have HR:Hid (slC (V,0)=(numV V,numE V)):=Lib.hid (by rw [HS'.out];rfl)
  by_cases hV:vn=0
  ·have hVn:V=[]:=List.eq_nil_of_length_eq_zero (by have:=Hvl.out;omega)
   have hvi:((vn:Int)==0)=true:=by rw [hV];rfl
   have HR2:Hid (slC (V,0)=(0,0)):=Lib.hid (by rw [HR.out,hVn];rfl)
   go_wp2_with ((with_reducible show wpList _ _ _ (⟨none,.store _ _ (.tmp 26),_,_,_,_⟩::_) _ _);refine wpList_storeA (o:=⟨none,_,_,_,_,_⟩) (by rfl) 24 (.tmp 6) (.tmp 26) (by rfl) (w.heap.size+2) z4 (by rfl) (by rfl) aggWord hz6 hzl hzl hzo hbel6 (by omega) ?_;intro w8 h8 bel8 _)
   exact bodyPost_ret (v:=.tuple #[.agg z4.toArray,.int .i64 0]) (results_blk_tmp rfl _ _ (w.heap.size+2) aggWord h8 hzl rfl rfl) rfl (by unfold WcPost;rw [HR2.out];exact ⟨by rw [←z4_zero],bel8⟩)
  ·have hvi:((vn:Int)==0)=false:=by rw [beq_eq_false_iff_ne];omega
   have cr:=C3.out va vc V u2 (by rw [←Hvl.out];exact hv)
   rw [←Hvl.out] at cr
   change Calls _ _ _ _ (fun e w'=>e=.returned (.tuple #[.agg (wcs (numV V)).toArray,.int .i64 (numE V)])∧Below u2.heap.size u2 w') at cr
   obtain ⟨NV,hNV⟩:∃ N,N=numV V:=⟨_,rfl⟩
   obtain ⟨NE,hNE⟩:∃ N,N=numE V:=⟨_,rfl⟩
   rw [←hNV,←hNE] at cr
   have HR2:Hid (slC (V,0)=(NV,NE)):=Lib.hid (by rw [HR.out,hNV,hNE])
   have hnl:=wcs_len NV
   have hno:=wcs_one NV
   obtain ⟨NC,hNC⟩:∃ C,C=wcs NV:=⟨_,rfl⟩
   rw [←hNC] at cr hnl hno
   have HNC:=Lib.hid hNC
   have Cr:=Lib.hid cr
   have HNo:=Lib.hid hno
   clear cr hNV hNE hNC hno
   go_wp2_with (first
    |(go_at_call 69;(with_reducible refine Cr.out.mono ?_);rintro e w7 ⟨rfl,b7⟩;have hz7:=hz6.kept b7;have hbel7:=Below.then hbel6 b7)
    |((with_reducible show wpList _ _ _ (⟨none,.store _ _ (.tmp 30),_,_,_,_⟩::_) _ _);refine wpList_storeA (o:=⟨none,_,_,_,_,_⟩) (by rfl) 24 (.tmp 6) (.tmp 30) (by rfl) (w.heap.size+2) NC (by rfl) (by rfl) aggWord hz7 hnl hzl HNo.out hbel7 (by omega) ?_;intro w8 h8 bel8 _))
   exact bodyPost_ret (v:=.tuple #[.agg NC.toArray,.int .i64 NE]) (results_blk_tmp rfl _ _ (w.heap.size+2) aggWord h8 hnl rfl rfl) rfl (by unfold WcPost;rw [HR2.out];exact ⟨by rw [HNC.out],bel8⟩)
 ·have hEi:(E==0)=false:=beq_eq_false_iff_ne.2 hE
  have HR2:Hid (slC (V,E)=(0,E)):=Lib.hid (by rw [HS'.out];exact if_neg hE)
  go_wp2_with ((with_reducible show wpList _ _ _ (⟨none,.store _ _ (.tmp 26),_,_,_,_⟩::_) _ _);refine wpList_storeA (o:=⟨none,_,_,_,_,_⟩) (by rfl) 24 (.tmp 6) (.tmp 26) (by rfl) (w.heap.size+2) z4 (by rfl) (by rfl) aggWord hz6 hzl hzl hzo hbel6 (by omega) ?_;intro w8 h8 bel8 _)
  exact bodyPost_ret (v:=.tuple #[.agg z4.toArray,.int .i64 E]) (results_blk_tmp rfl _ _ (w.heap.size+2) aggWord h8 hzl rfl rfl) rfl (by unfold WcPost;rw [HR2.out];exact ⟨by rw [←z4_zero],bel8⟩)
theorem upto_each4 {H:Type}{d:DataW H}{ps:List (Value × List UInt8)}(h:SzT d ps):∀ q∈ps,q.2.length≤Rows.uptoBulk d:=by
 intro q hq
 have h1:=(upto_texts h).2
 rw [List.length_flatMap] at h1
 have:∀ (l:List (Value × List UInt8)),q∈l→q.2.length≤(l.map fun p=>p.2.length).sum:=by
  intro l
  induction l with
  | nil=>intro h;simp at h
  | cons p l ih =>
   intro h
   simp only [List.map_cons,List.sum_cons]
   rcases List.mem_cons.1 h with rfl|h
   ·omega
   ·have:=ih h;omega
 exact Nat.le_trans (this ps hq) h1
theorem worldChecks_walk (St:List UInt8)(hSt:St.length=32)(A:List UInt8)(hA:A.length=8)(K:Nat)(ca:Option Addr)(cc:Nat)(ps:List (Value × List UInt8))(w:World)(hc:Texts w (.slice ca ps.length cc) ps)(hN:ps.length≤1048576)(hNs:∀ q∈ps,q.2.length≤1048576) :
  Calls Tryz.prog 5 #[.agg (by8 St).toArray,.agg (by8 A).toArray,.agg (wcs K).toArray,.slice ca ps.length cc] w fun e w'=>e=.returned (.bool true)∧Below w.heap.size w w':=by
 obtain ⟨cn,hcn⟩:∃ n,n=ps.length:=⟨_,rfl⟩
 rw [←hcn] at hc hN ⊢
 obtain ⟨w1,hw1⟩:∃ w1,w1=((w.alloc (.cells (by8 St).toArray 30)).alloc (.cells (by8 A).toArray 41)).alloc (.cells (wcs K).toArray 24):=⟨_,rfl⟩
 have hs:Blk 30 w1 w.heap.size (by8 St):=by rw [hw1];exact ((Blk.new w _ _).alloc _).alloc _
 have ha:Blk 41 w1 (w.heap.size+1) (by8 A):=by
  have:=(Blk.new (w.alloc (.cells (by8 St).toArray 30)) 41 (by8 A)).alloc (.cells (wcs K).toArray 24)
  simp only [World.size_alloc] at this
  rw [hw1];exact this
 have hk:Blk 24 w1 (w.heap.size+2) (wcs K):=by
  have:=Blk.new ((w.alloc (.cells (by8 St).toArray 30)).alloc (.cells (by8 A).toArray 41)) 24 (wcs K)
  simp only [World.size_alloc] at this
  rw [hw1];exact this
 have hbel:Below w.heap.size w w1:=by rw [hw1];exact (((Below.refl _ _).alloc (Nat.le_refl _) _).alloc (by simp) _).alloc (by simp;omega) _
 have hzn:∀ u:World,Blk 32 (u.alloc (.cells Tryz.zeroCells32 32)) u.heap.size (lfcs zL):=fun u=>by rw [zcLf];exact Blk.new u _ _
 have hl69:=lfcs_len zL_ok
 have hbc:∀ u,Below w1.heap.size w1 u→Texts u (.slice ca cn cc) ps:=fun u hu=>(hc.below hbel).below hu
 have c1:∀ u,Below w1.heap.size w1 u→Calls Tryz.prog 21 #[.agg (by8 St).toArray,.agg (by8 A).toArray,.slice ca cn cc] u _:=fun u hu=>checkLeaf_any St hSt A hA ca cn cc ps hcn.symm u (hbc u hu) hN hNs
 have c2:∀ u,Below w1.heap.size w1 u→Calls Tryz.prog 22 #[.agg (by8 St).toArray,.agg (by8 A).toArray,.slice ca cn cc] u _:=fun u hu=>ocheckLeaf_any St hSt A hA ca cn cc ps hcn.symm u (hbc u hu) hN hNs
 have c3:∀ u,Below w1.heap.size w1 u→Calls Tryz.prog 23 #[.agg (by8 St).toArray,.agg (wcs K).toArray,.slice ca cn cc] u _:=fun u hu=>checkSlot_any St hSt K ca cn cc ps hcn.symm u (hbc u hu) hN hNs
 have c4:∀ u,Below w1.heap.size w1 u→Calls Tryz.prog 24 #[.agg (by8 St).toArray,.agg (wcs K).toArray,.slice ca cn cc] u _:=fun u hu=>ocheckSlot_any St hSt K ca cn cc ps hcn.symm u (hbc u hu) hN hNs
 obtain ⟨R,hR⟩:∃ R,R=slC (chk St (sumB (wb K)) (ps.map (·.2))):=⟨_,rfl⟩
 unfold WcPost at c3 c4
 simp only [←hR] at c3 c4
 obtain ⟨Q,hQ⟩:∃ Q,Q=chk St (sumB A) (ps.map (·.2)):=⟨_,rfl⟩
 simp only [←hQ] at c1 c2
 obtain ⟨N,E⟩:=R
 dsimp only at c3 c4
 have hNk:N<W256:=by
  have e:=congrArg Prod.fst hR
  dsimp only at e
  rw [e];unfold slC
  split
  ·exact mfP_lt _
  ·show 0<W256;unfold W256;omega
 have g2:∀ o1 o2 w1,(eqGuard .eql 24 o1 o2 (.agg (wcs N).toArray) (.agg (wcs N).toArray)).run Tryz.prog w1=.ok () w1:=fun o1 o2 w1=>guardWN N N o1 o2 w1
 have q2:∀ w1:World,(binOp .eql 24 (.agg (wcs N).toArray) (.agg (wcs N).toArray)).run Tryz.prog w1=.ok (.bool true) w1:=fun w1=>by rw [eqWN N N hNk hNk w1,decide_eq_true rfl]
 have hNl:=wcs_len N
 have hNo:=wcs_one N
 obtain ⟨NC,hNC⟩:∃ C,C=wcs N:=⟨_,rfl⟩
 simp only [←hNC] at c3 c4 g2 q2 hNl hNo
 have hSl:(by8 St).length=32:=by rw [by8_len];exact hSt
 have hAl:(by8 A).length=8:=by rw [by8_len];exact hA
 have hKl:=wcs_len K
 obtain ⟨SC,hSC⟩:∃ C,C=by8 St:=⟨_,rfl⟩
 obtain ⟨AC,hAC⟩:∃ C,C=by8 A:=⟨_,rfl⟩
 obtain ⟨KC,hKC⟩:∃ C,C=wcs K:=⟨_,rfl⟩
 rw [←hSC] at hs hSl hw1 ⊢
 rw [←hAC] at ha hAl hw1 ⊢
 rw [←hKC] at hk hKl hw1 ⊢
 simp only [←hSC,←hAC] at c1 c2
 simp only [←hSC,←hKC] at c3 c4
 have r1:=hs.all0
 have a1:=ha.all0
 have HSl:=Lib.hid hSl
 have HAl:=Lib.hid hAl
 have HKl:=Lib.hid hKl
 have HNl:=Lib.hid hNl
 have HNo:=Lib.hid hNo
 have G2:=Lib.hid g2
 have Q2:=Lib.hid q2
 have C1:=Lib.hid c1
 have C2:=Lib.hid c2
 have C3:=Lib.hid c3
 have C4:=Lib.hid c4
 have HzN:=Lib.hid hzn
 have HWe:=Lib.hid hw1
 have hz4o:z4.length=4:=rfl
 have hEE:(E==E)=true:=beq_self_eq_true E
 clear hw1 hzn c1 c2 c3 c4 g2 q2 hNl hNo hNC hSl hAl hKl hSC hAC hKC hNk hR hQ hc hbc hN hNs hcn hSt hA
 go_enter Tryz.func5,Tryz.ntmps5
 go_wp2_with (first
  |(rw [←HWe.out])
  |((with_reducible show wpList _ _ _ (⟨some 18,_,_,_,_,_⟩::_) _ _);refine wpList_loadW (o:=⟨some 18,_,_,_,_,_⟩) 30 (.tmp 4) (by rfl) w.heap.size 0 (by rfl) aggHash' HSl.out r1 (by rfl) ?_)
  |((with_reducible show wpList _ _ _ (⟨some 19,_,_,_,_,_⟩::_) _ _);refine wpList_loadW (o:=⟨some 19,_,_,_,_,_⟩) 41 (.tmp 5) (by rfl) (w.heap.size+1) 0 (by rfl) aggAddr41 HAl.out a1 (by rfl) ?_)
  |(go_at_call 21;(with_reducible refine (C1.out _ (Below.refl _ _)).mono ?_);rintro e w2 ⟨H,EH,rfl,kH,rH,b2⟩;have hHl:=lfcs_len kH;have hHo:=lfcs_one H)
  |((with_reducible show wpList _ _ _ (⟨none,.store _ _ (.tmp 22),_,_,_,_⟩::_) _ _);refine wpList_storeA (o:=⟨none,_,_,_,_,_⟩) (by rfl) 32 (.tmp 9) (.tmp 22) (by rfl) w2.heap.size (lfcs H) (by rfl) (by rfl) aggLf (HzN.out w2) hHl hl69 hHo ((Below.refl w2.heap.size w2).alloc (Nat.le_refl _) _) (Nat.le_refl _) ?_;intro w3 h3 b3 _;have b13:=Below.then b2 b3;have r3:=(hs.kept b13).all0;have a3:=(ha.kept b13).all0)
  |((with_reducible show wpList _ _ _ (⟨some 25,_,_,_,_,_⟩::_) _ _);refine wpList_loadW (o:=⟨some 25,_,_,_,_,_⟩) 30 (.tmp 4) (by rfl) w.heap.size 0 (by rfl) aggHash' HSl.out r3 (by rfl) ?_)
  |((with_reducible show wpList _ _ _ (⟨some 26,_,_,_,_,_⟩::_) _ _);refine wpList_loadW (o:=⟨some 26,_,_,_,_,_⟩) 41 (.tmp 5) (by rfl) (w.heap.size+1) 0 (by rfl) aggAddr41 HAl.out a3 (by rfl) ?_)
  |(go_at_call 22;(with_reducible refine (C2.out _ b13).mono ?_);rintro e w4 ⟨H',EH',rfl,kH',rH',b4⟩;obtain ⟨rfl,rfl⟩:=LcR.one kH kH' rH rH')
  |((with_reducible show wpList _ _ _ (⟨none,.store _ _ (.tmp 29),_,_,_,_⟩::_) _ _);refine wpList_storeA (o:=⟨none,_,_,_,_,_⟩) (by rfl) 32 (.tmp 11) (.tmp 29) (by rfl) w4.heap.size (lfcs H) (by rfl) (by rfl) aggLf (HzN.out w4) hHl hl69 hHo ((Below.refl w4.heap.size w4).alloc (Nat.le_refl _) _) (Nat.le_refl _) ?_;intro w5 h5 b5 _;have b35:=Below.then b4 b5;have b15:=Below.then b13 b35;have h35:=h3.kept b35;have r5:=(hs.kept b15).all0;have k5:=(hk.kept b15).all0)
  |((with_reducible show wpList _ _ _ (⟨some 32,_,_,_,_,_⟩::_) _ _);refine wpList_loadW (o:=⟨some 32,_,_,_,_,_⟩) 30 (.tmp 4) (by rfl) w.heap.size 0 (by rfl) aggHash' HSl.out r5 (by rfl) ?_)
  |((with_reducible show wpList _ _ _ (⟨some 33,_,_,_,_,_⟩::_) _ _);refine wpList_loadW (o:=⟨some 33,_,_,_,_,_⟩) 24 (.tmp 6) (by rfl) (w.heap.size+2) 0 (by rfl) aggWord HKl.out k5 (by rfl) ?_)
  |(go_at_call 23;(with_reducible refine (C3.out _ b15).mono ?_);rintro e w6 ⟨rfl,b6⟩;have n6:=Blk.new w6 24 z4)
  |((with_reducible show wpList _ _ _ (⟨none,.store _ _ (.tmp 36),_,_,_,_⟩::_) _ _);refine wpList_storeA (o:=⟨none,_,_,_,_,_⟩) (by rfl) 24 (.tmp 13) (.tmp 36) (by rfl) w6.heap.size NC (by rfl) (by rfl) aggWord n6 HNl.out hz4o HNo.out ((Below.refl w6.heap.size w6).alloc (Nat.le_refl _) _) (Nat.le_refl _) ?_;intro w7 h7 b7 _;have b57:=Below.then b6 b7;have b17:=Below.then b15 b57;have h37:=h35.kept b57;have h57:=h5.kept b57;have r7:=(hs.kept b17).all0;have k7:=(hk.kept b17).all0)
  |((with_reducible show wpList _ _ _ (⟨some 39,_,_,_,_,_⟩::_) _ _);refine wpList_loadW (o:=⟨some 39,_,_,_,_,_⟩) 30 (.tmp 4) (by rfl) w.heap.size 0 (by rfl) aggHash' HSl.out r7 (by rfl) ?_)
  |((with_reducible show wpList _ _ _ (⟨some 40,_,_,_,_,_⟩::_) _ _);refine wpList_loadW (o:=⟨some 40,_,_,_,_,_⟩) 24 (.tmp 6) (by rfl) (w.heap.size+2) 0 (by rfl) aggWord HKl.out k7 (by rfl) ?_)
  |(go_at_call 24;(with_reducible refine (C4.out _ b17).mono ?_);rintro e w8 ⟨rfl,b8⟩;have n8:=Blk.new w8 24 z4)
  |((with_reducible show wpList _ _ _ (⟨none,.store _ _ (.tmp 43),_,_,_,_⟩::_) _ _);refine wpList_storeA (o:=⟨none,_,_,_,_,_⟩) (by rfl) 24 (.tmp 15) (.tmp 43) (by rfl) w8.heap.size NC (by rfl) (by rfl) aggWord n8 HNl.out hz4o HNo.out ((Below.refl w8.heap.size w8).alloc (Nat.le_refl _) _) (Nat.le_refl _) ?_;intro w9 h9 b9 _;have b79:=Below.then b8 b9;have b19:=Below.then b17 b79;have t9:=(h37.kept b79).all0;have t11:=(h57.kept b79).all0;have t13:=(h7.kept b79).all0;have t15:=h9.all0;have hHH:(EH==EH)=true:=beq_self_eq_true EH;have G1:=Lib.hid (fun o1 o2 w1=>guard_eqLf H H o1 o2 w1);have Q1:=Lib.hid (fun w1=>run_eqLf kH w1))
  |((with_reducible show wpList _ _ _ (⟨some 49,_,_,_,_,_⟩::_) _ _);refine wpList_loadW (o:=⟨some 49,_,_,_,_,_⟩) 32 (.tmp 9) (by rfl) w2.heap.size 0 (by rfl) aggLf hHl t9 (by rfl) ?_)
  |((with_reducible show wpList _ _ _ (⟨some 50,_,_,_,_,_⟩::_) _ _);refine wpList_loadW (o:=⟨some 50,_,_,_,_,_⟩) 32 (.tmp 11) (by rfl) w4.heap.size 0 (by rfl) aggLf hHl t11 (by rfl) ?_)
  |((with_reducible show wpList _ _ _ (⟨some 51,_,_,_,_,_⟩::_) _ _);refine wpList_eqlW (o:=⟨some 51,_,_,_,_,_⟩) 32 (.tmp 49) (.tmp 50) _ (by rfl) (by rfl) (by rfl) G1.out Q1.out (by rfl) ?_)
  |((with_reducible show wpList _ _ _ (⟨some 59,_,_,_,_,_⟩::_) _ _);refine wpList_loadW (o:=⟨some 59,_,_,_,_,_⟩) 24 (.tmp 13) (by rfl) w6.heap.size 0 (by rfl) aggWord HNl.out t13 (by rfl) ?_)
  |((with_reducible show wpList _ _ _ (⟨some 60,_,_,_,_,_⟩::_) _ _);refine wpList_loadW (o:=⟨some 60,_,_,_,_,_⟩) 24 (.tmp 15) (by rfl) w8.heap.size 0 (by rfl) aggWord HNl.out t15 (by rfl) ?_)
  |((with_reducible show wpList _ _ _ (⟨some 61,_,_,_,_,_⟩::_) _ _);refine wpList_eqlW (o:=⟨some 61,_,_,_,_,_⟩) 24 (.tmp 59) (.tmp 60) _ (by rfl) (by rfl) (by rfl) G2.out Q2.out (by rfl) ?_))
 go_ret
 exact ⟨rfl,Below.then hbel b19⟩
end Go.Proofs.YtcgpjceopnfahaaGreat
