/- world.Leaf, the reference's OLeaf (gen_lf11.py printed it). | The leaf of an empty account: the short way, without the laws of trees. -/
import Derived.Test.YtcgpjceopnfahaaGreatWorldChecksK25
import Derived.Test.YtcgpjceopnfahaaGreatWorldChecksK26
import Derived.Test.YtcgpjceopnfahaaGreatWorldChecksK27
set_option linter.unusedSimpArgs false
set_option linter.unusedVariables false
set_option maxHeartbeats 4000000
set_option maxRecDepth 100000
namespace Go.Proofs.YtcgpjceopnfahaaGreat
open Go.RowKit
mutual
def ndP:Pn→Nd
 | .mk kd p v ks=>.mk kd (.slice none 0 0) p (.slice none 0 0) v (.slice none 0 0) (ndPL ks)
def ndPL:List Pn→List Nd
 | []=>[]
 | k::ks=>ndP k::ndPL ks
end
mutual
theorem er_nd:∀ T:Pn,erN (ndP T)=T
 | .mk kd p v ks=>by simp only [ndP,erN,er_ndL ks]
theorem er_ndL:∀ ks:List Pn,erNL (ndPL ks)=ks
 | []=>rfl
 | k::ks=>by simp only [ndPL,erNL,er_nd k,er_ndL ks]
end
def lfB (A:Acc)(RB:List UInt8):Lf × Int:=if slotsB A.s then (if 1024<A.c.length then (zL,2) else (⟨A.n,A.m,RB,sumB A.c⟩,0)) else (zL,1)
def LfPost (R:Lf × Int)(w:World)(e:Ending)(w':World):Prop:=e=.returned (.tuple #[.agg (lfcs R.1).toArray,.int .i64 R.2])∧Below w.heap.size w w'
theorem leaf_core (A:Acc)(k:A.Ok)(P:Nd→Prop)(RB:List UInt8)(hRt:RB.length=32)(w:World)(hI:A.In w)(hct:∀ u,Below w.heap.size w u→Calls Tryz.prog 36 #[A.sv] u fun e w'=>∃ y:Nd,e=.returned (.agg (ndcells y).toArray)∧IsNd w' y∧P y∧Below u.heap.size u w')(hcr:∀ (y:Nd) (u:World),IsNd u y→P y→Calls Tryz.prog 35 #[.agg (ndcells y).toArray] u fun e w'=>∃ E:Int,e=.returned (.tuple #[.agg (by8 RB).toArray,.int .i64 E])∧Below u.heap.size u w'):Calls Tryz.prog 8 #[.agg (accs A).toArray] w (LfPost (lfB A RB) w):=by
 obtain ⟨ca,cc,sa,sc,hcv,hsv⟩:=acc_parts hI
 obtain ⟨w1,hw1⟩:∃ w1,w1=(w.alloc (.cells (accs A).toArray 28)).alloc (.cells (lfcs zL).toArray 32):=⟨_,rfl⟩
 have hza:Blk 28 w1 w.heap.size (accs A):=by rw [hw1];exact (Blk.new w _ _).alloc _
 have hz:Blk 32 w1 (w.heap.size+1) (lfcs zL):=by
  have:=Blk.new (w.alloc (.cells (accs A).toArray 28)) 32 (lfcs zL)
  simp only [World.size_alloc] at this
  rw [hw1];exact this
 have hbel:Below w.heap.size w w1:=by rw [hw1];exact ((Below.refl _ _).alloc (Nat.le_refl _) _).alloc (by simp) _
 have hwe:w1=(w.alloc (.cells (accs A).toArray 28)).alloc (.cells Tryz.zeroCells32 32):=by rw [hw1,zcLf]
 have hl69:=lfcs_len zL_ok
 obtain ⟨Sl,hSl⟩:∃ s,s=A.s:=⟨_,rfl⟩
 obtain ⟨sn,hsn⟩:∃ s,s=Sl.length:=⟨_,rfl⟩
 obtain ⟨cn,hcn⟩:∃ s,s=A.c.length:=⟨_,rfl⟩
 obtain ⟨R,hR⟩:∃ R,R=lfB A RB:=⟨_,rfl⟩
 have hRe:R=if slotsB Sl then (if 1024<cn then (zL,2) else (⟨A.n,A.m,RB,sumB A.c⟩,0)) else (zL,1):=by rw [hR,hSl,hcn];rfl
 rw [←hR]
 have hc5:(accs A)[5]?=some (.slice ca cn cc):=by rw [hcn,←hcv];rfl
 have hc6:(accs A)[6]?=some (.slice sa sn sc):=by rw [hsn,hSl,←hsv];rfl
 have hc0:(accs A)[0]?=some (.int .u64 (A.n:Int)):=rfl
 have hcm:((accs A).drop 1).take 4=wcs A.m:=mid_drop [u64v A.n] _ _ 1 4 rfl (wcs_len _)
 have hrow:RowOf spc 8 w1 (.slice sa sn sc) Sl:=by have:=(hI.below hbel).2;rw [hsv,←hSl,←hsn] at this;exact this
 have hby:Bytes w1 (.slice ca cn cc) A.c:=by have:=(hI.below hbel).1;rw [hcv,←hcn] at this;exact this
 have c1:=fun u (hu:Below w1.heap.size w1 u)=>slotsRight_any sa sn sc Sl hsn.symm (by rw [hSl];exact k.s) u (hrow.below hu)
 have hsv2:A.sv=.slice sa sn sc:=by rw [hsv,hsn,hSl]
 have ct:=fun u (hu:Below w1.heap.size w1 u)=>hct u (Below.then hbel hu)
 rw [hsv2] at ct
 have cs:∀ u,Below w1.heap.size w1 u→Calls Tryz.prog 37 #[.slice ca cn cc] u fun e w'=>e=.returned (.agg ((sumB A.c).map u8v).toArray)∧Below u.heap.size u w':=fun u hu=>sum_any ca cn cc A.c hcn.symm u (hby.below hu)
 have cr:=hcr
 obtain ⟨q,hq⟩:∃ q,q=slotsB Sl:=⟨_,rfl⟩
 rw [←hq] at hRe c1
 have hSt:(sumB A.c).length=32:=outB_len _
 obtain ⟨SB,hSB⟩:∃ B,B=sumB A.c:=⟨_,rfl⟩
 rw [←hSB] at cs hRe hSt
 have hRl2:(by8 RB).length=32:=by rw [by8_len];exact hRt
 change ∀ u,Below w1.heap.size w1 u→Calls _ _ _ u (fun e w'=>e=.returned (.agg (by8 SB).toArray)∧Below u.heap.size u w') at cs
 have hok:Lf.Ok ⟨A.n,A.m,RB,SB⟩:=⟨k.n,k.m,hRt,hSt⟩
 have HRo:=Lib.hid (u8_one RB)
 have HOk:=Lib.hid hok
 have Ct:=Lib.hid ct
 have Cs:=Lib.hid cs
 have Cr:=Lib.hid cr
 have HRe:=Lib.hid hRe
 have Hwe:=Lib.hid hwe
 have hwl:=wcs_len A.m
 obtain ⟨AC,hAC⟩:∃ C,C=accs A:=⟨_,rfl⟩
 have hAl:AC.length=7:=by rw [hAC];rfl
 have hAo:Hid (AC.length=7):=Lib.hid hAl
 rw [←hAC] at hza hc5 hc6 hc0 hcm
 try simp only [←hAC] at c1
 have HWe:Hid (w1=(w.alloc (.cells AC.toArray 28)).alloc (.cells Tryz.zeroCells32 32)):=Lib.hid (by rw [hAC];exact hwe)
 obtain ⟨WV,hWV⟩:∃ W,W=wcs A.m:=⟨_,rfl⟩
 rw [←hWV] at hwl hcm
 have hbl:=built_lf HOk.out
 dsimp only at hbl
 rw [←hWV] at hbl
 have Hbl:=Lib.hid hbl
 clear hbl
 rw [←hAC]
 have C1:=Lib.hid c1
 clear hw1 hwe hRe ct cs cr hct hcr hSB hq hR hSl hsn hcn hcv hsv hI hAC hWV k hok hrow hRt c1 hsv2
 have d6:w1.cell? ⟨w.heap.size,6,none⟩=some (.slice sa sn sc):=(hza.cell 6).trans hc6
 cases q with
 | false =>
  go_enter Tryz.func8,Tryz.ntmps8
  go_wp2_with (first
   |(rw [←HWe.out])|(go_at_call 34;(with_reducible refine (C1.out _ (Below.refl _ _)).mono ?_);rintro e w4 ⟨rfl,b4⟩;have hz4:=hz.kept b4;have hbel4:=Below.then hbel b4)
   |((with_reducible show wpList _ _ _ (⟨none,.store _ _ (.tmp 11),_,_,_,_⟩::_) _ _);refine wpList_storeA (o:=⟨none,_,_,_,_,_⟩) (by rfl) 32 (.tmp 2) (.tmp 11) (by rfl) (w.heap.size+1) (lfcs zL) (by rfl) (by first|rfl|exact congrArg Value.agg zcLf) aggLf hz4 hl69 hl69 (lfcs_one _) hbel4 (by omega) ?_;intro w5 hh5 hbel5 _))
  exact bodyPost_ret (v:=.tuple #[.agg (lfcs zL).toArray,.int .i64 1]) (results_blk_tmp rfl _ _ (w.heap.size+1) aggLf hh5 hl69 rfl rfl) rfl (by rw [HRe.out];exact ⟨rfl,hbel5⟩)
 | true =>
  have rm:w1.rangeAt w.heap.size 1 WV:=by have:=hza.range 1 4;rw [hcm] at this;exact this
  by_cases h24:1024<cn
  ·have h24i:(1024:Int)<(cn:Int):=by omega
   have HRe2:Hid (R=(zL,2)):=Lib.hid (by rw [HRe.out,if_pos rfl,if_pos h24])
   clear h24
   go_enter Tryz.func8,Tryz.ntmps8
   go_wp2_with (first
    |(rw [←HWe.out])|(go_at_call 34;(with_reducible refine (C1.out _ (Below.refl _ _)).mono ?_);rintro e w4 ⟨rfl,b4⟩;have hz4:=hz.kept b4;have hbel4:=Below.then hbel b4;have d5:w4.cell? ⟨w.heap.size,5,none⟩=some (.slice ca cn cc):=((hza.kept b4).cell 5).trans hc5)
    |((with_reducible show wpList _ _ _ (⟨none,.store _ _ (.tmp 17),_,_,_,_⟩::_) _ _);refine wpList_storeA (o:=⟨none,_,_,_,_,_⟩) (by rfl) 32 (.tmp 2) (.tmp 17) (by rfl) (w.heap.size+1) (lfcs zL) (by rfl) (by first|rfl|exact congrArg Value.agg zcLf) aggLf hz4 hl69 hl69 (lfcs_one _) hbel4 (by omega) ?_;intro w5 hh5 hbel5 _))
   exact bodyPost_ret (v:=.tuple #[.agg (lfcs zL).toArray,.int .i64 2]) (results_blk_tmp rfl _ _ (w.heap.size+1) aggLf hh5 hl69 rfl rfl) rfl (by rw [HRe2.out];exact ⟨rfl,hbel5⟩)
  ·have h24i:¬ (1024:Int)<(cn:Int):=by omega
   have HRe2:Hid (R=(⟨A.n,A.m,RB,SB⟩,0)):=Lib.hid (by rw [HRe.out,if_pos rfl,if_neg h24])
   clear h24
   go_enter Tryz.func8,Tryz.ntmps8
   go_upto_region 6 with (first
    |(rw [←HWe.out])|(go_at_call 34;(with_reducible refine (C1.out _ (Below.refl _ _)).mono ?_);rintro e w4 ⟨rfl,b4⟩;have hz4:=hz.kept b4;have hbel4:=Below.then hbel b4;have hza4:=hza.kept b4;have d5:w4.cell? ⟨w.heap.size,5,none⟩=some (.slice ca cn cc):=(hza4.cell 5).trans hc5;have e6:w4.cell? ⟨w.heap.size,6,none⟩=some (.slice sa sn sc):=(hza4.cell 6).trans hc6)
    |(go_at_call 36;(with_reducible refine (Ct.out _ b4).mono ?_);rintro e w5 ⟨y,rfl,iy,py,b5⟩)
    |(go_at_call 35;(with_reducible refine (Cr.out y _ iy py).mono ?_);rintro e w6 ⟨E6,rfl,b6⟩;have n6:=Blk.new w6 30 zh)
    |((with_reducible show wpList _ _ _ (⟨none,.store _ _ (.tmp 23),_,_,_,_⟩::_) _ _);refine wpList_storeA (o:=⟨none,_,_,_,_,_⟩) (by rfl) 30 (.tmp 4) (.tmp 23) (by rfl) w6.heap.size (by8 RB) (by rfl) (by rfl) aggHash' n6 hRl2 (by rfl) HRo.out ((Below.refl w6.heap.size w6).alloc (Nat.le_refl _) _) (Nat.le_refl _) ?_;intro w7 h7 b7 _;have b47:=Below.then (Below.then b5 b6) b7;have b17:=Below.then b4 b47;have hz7:=hz4.kept b47;have hza7:=hza4.kept b47;have hbel7:=Below.then hbel4 b47))

   have k0:=fun u:Ext w7=>u.cell ((hza7.cell 0).trans hc0)
   have k5:=fun u:Ext w7=>u.cell ((hza7.cell 5).trans hc5)
   have rm7:w7.rangeAt w.heap.size 1 WV:=by have:=hza7.range 1 4;rw [hcm] at this;exact this
   have Rm:=Lib.hid rm7
   have S7:=Lib.hid h7.all0
   have cs7:=fun u (hu:Below w7.heap.size w7 u)=>Cs.out u (Below.then b17 hu)
   have Cs7:=Lib.hid cs7
   clear rm rm7 hza7 cs7
   refine wp_region_typed w7 9 (by kernel_rfl) (by kernel_rfl) (Below.refl _ _) ?_;simp only [List.take_succ_cons,List.take_zero,List.take_nil]
   iterate 3 (refine wpX_step (by rfl) (fun K hK=>?_);go_simp;first|(refine hK _ ?_;clear hK K)|(apply Exists.intro;refine ⟨fun _=>?_,hK _ ?_⟩;fail;clear hK K))
   (refine wpX_step (by rfl) (fun K hK=>?_);rw [if_pos (by rfl)];refine ⟨_,fun u=>const_loadm _ (.tmp 27) (by rfl) _ _ (by rfl) aggWord hwl (rangeAt.ext Rm.out u),hK _ ?_⟩;clear hK K;simp only [Act.put,List.setIfInBounds_toArray,List.set_cons_zero,List.set_cons_succ])
   (refine wpX_step (by rfl) (fun K hK=>?_);rw [if_pos (by rfl)];refine ⟨_,fun u=>const_loadm _ (.tmp 4) (by rfl) _ _ (by rfl) aggHash' hRl2 (rangeAt.ext S7.out u),hK _ ?_⟩;clear hK K;simp only [Act.put,List.setIfInBounds_toArray,List.set_cons_zero,List.set_cons_succ])
   iterate 2 (refine wpX_step (by rfl) (fun K hK=>?_);go_simp;first|(refine hK _ ?_;clear hK K)|(apply Exists.intro;refine ⟨fun _=>?_,hK _ ?_⟩;fail;clear hK K))
   (refine wpX_step (by rfl) (fun K hK=>?_);go_simp;first|(refine hK _ ?_;clear hK K)|(apply Exists.intro;refine ⟨fun _=>?_,hK _ ?_⟩;exact Cs7.out _ (Subtype.property _);clear hK K))
   refine wpX_eq (.agg (lfcs ⟨A.n,A.m,RB,SB⟩).toArray) (fun w2 hw2=>?_) ?_
   ·simp only [relOf,List.filter_nil,List.filter_cons,forallRel]
    try simp only [forallRel]
    refine ⟨rfl,?_⟩
    exact good_build (o:=⟨some 33,_,_,_,_,_⟩) 32 [(0,.tmp 26),(1,.tmp 28),(2,.tmp 29),(3,.tmp 32)] (by rfl) _ (by rfl) _ Hbl.out rfl
   refine wpX_nil ?_
   intro u2 hb2
   change wpList _ _ _ [_,_] _ _
   have hz8:=hz7.kept hb2
   have hbel8:=Below.then hbel7 hb2
   have hlX:=lfcs_len HOk.out
   clear k0 k5
   try simp only [Act.put,List.setIfInBounds_toArray,List.set_cons_zero,List.set_cons_succ]
   go_wp2_with ((with_reducible show wpList _ _ _ (⟨none,.store _ _ (.tmp 33),_,_,_,_⟩::_) _ _);refine wpList_storeA (o:=⟨none,_,_,_,_,_⟩) (by rfl) 32 (.tmp 2) (.tmp 33) (by rfl) (w.heap.size+1) (lfcs ⟨A.n,A.m,RB,SB⟩) (by rfl) (by rfl) aggLf hz8 hlX hl69 (lfcs_one _) hbel8 (by omega) ?_;intro w9 h9 bel9 _)
   exact bodyPost_ret (v:=.tuple #[.agg (lfcs ⟨A.n,A.m,RB,SB⟩).toArray,.int .i64 0]) (results_blk_tmp rfl _ _ (w.heap.size+1) aggLf h9 hlX rfl rfl) rfl (by rw [HRe2.out];exact ⟨rfl,bel9⟩)
theorem oleaf_core (A:Acc)(k:A.Ok)(hC:A.c.length≤1048576)(P:Nd→Prop)(RB:List UInt8)(hRt:RB.length=32)(w:World)(hI:A.In w)(hct:∀ u,Below w.heap.size w u→Calls Tryz.prog 40 #[.agg (accs A).toArray] u fun e w'=>∃ y:Nd,e=.returned (.agg (ndcells y).toArray)∧IsNd w' y∧P y∧Below u.heap.size u w')(hcr:∀ (y:Nd) (u:World),IsNd u y→P y→Calls Tryz.prog 39 #[.agg (ndcells y).toArray] u fun e w'=>∃ E:Int,e=.returned (.tuple #[.agg (by8 RB).toArray,.int .i64 E])∧Below u.heap.size u w'):Calls Tryz.prog 9 #[.agg (accs A).toArray] w (LfPost (lfB A RB) w):=by
 obtain ⟨ca,cc,sa,sc,hcv,hsv⟩:=acc_parts hI
 obtain ⟨w1,hw1⟩:∃ w1,w1=(w.alloc (.cells (accs A).toArray 28)).alloc (.cells (lfcs zL).toArray 32):=⟨_,rfl⟩
 have hza:Blk 28 w1 w.heap.size (accs A):=by rw [hw1];exact (Blk.new w _ _).alloc _
 have hz:Blk 32 w1 (w.heap.size+1) (lfcs zL):=by
  have:=Blk.new (w.alloc (.cells (accs A).toArray 28)) 32 (lfcs zL)
  simp only [World.size_alloc] at this
  rw [hw1];exact this
 have hbel:Below w.heap.size w w1:=by rw [hw1];exact ((Below.refl _ _).alloc (Nat.le_refl _) _).alloc (by simp) _
 have hwe:w1=(w.alloc (.cells (accs A).toArray 28)).alloc (.cells Tryz.zeroCells32 32):=by rw [hw1,zcLf]
 have hl69:=lfcs_len zL_ok
 obtain ⟨Sl,hSl⟩:∃ s,s=A.s:=⟨_,rfl⟩
 obtain ⟨sn,hsn⟩:∃ s,s=Sl.length:=⟨_,rfl⟩
 obtain ⟨cn,hcn⟩:∃ s,s=A.c.length:=⟨_,rfl⟩
 obtain ⟨R,hR⟩:∃ R,R=lfB A RB:=⟨_,rfl⟩
 have hRe:R=if slotsB Sl then (if 1024<cn then (zL,2) else (⟨A.n,A.m,RB,sumB A.c⟩,0)) else (zL,1):=by rw [hR,hSl,hcn];rfl
 rw [←hR]
 have hc5:(accs A)[5]?=some (.slice ca cn cc):=by rw [hcn,←hcv];rfl
 have hc6:(accs A)[6]?=some (.slice sa sn sc):=by rw [hsn,hSl,←hsv];rfl
 have hc0:(accs A)[0]?=some (.int .u64 (A.n:Int)):=rfl
 have hcm:((accs A).drop 1).take 4=wcs A.m:=mid_drop [u64v A.n] _ _ 1 4 rfl (wcs_len _)
 have hrow:RowOf spc 8 w1 (.slice sa sn sc) Sl:=by have:=(hI.below hbel).2;rw [hsv,←hSl,←hsn] at this;exact this
 have hby:Bytes w1 (.slice ca cn cc) A.c:=by have:=(hI.below hbel).1;rw [hcv,←hcn] at this;exact this
 have he:errA A=if slotsB Sl then (if 1024<cn then 2 else 0) else 1:=by rw [hSl,hcn];rfl
 have ce:=fun u (hu:Below w1.heap.size w1 u)=>oerror_any A k u ((hI.below hbel).below hu)
 have ct:=fun u (hu:Below w1.heap.size w1 u)=>hct u (Below.then hbel hu)
 have cs:∀ u,Below w1.heap.size w1 u→Calls Tryz.prog 41 #[.slice ca cn cc] u fun e w'=>e=.returned (.agg ((sumB A.c).map u8v).toArray)∧Below u.heap.size u w':=fun u hu=>ssum_any ca cn cc A.c hcn.symm u (hby.below hu) (by omega)
 have cr:=hcr
 obtain ⟨q,hq⟩:∃ q,q=slotsB Sl:=⟨_,rfl⟩
 rw [←hq] at hRe he
 have hSt:(sumB A.c).length=32:=outB_len _
 obtain ⟨SB,hSB⟩:∃ B,B=sumB A.c:=⟨_,rfl⟩
 rw [←hSB] at cs hRe hSt
 have hRl2:(by8 RB).length=32:=by rw [by8_len];exact hRt
 change ∀ u,Below w1.heap.size w1 u→Calls _ _ _ u (fun e w'=>e=.returned (.agg (by8 SB).toArray)∧Below u.heap.size u w') at cs
 have hok:Lf.Ok ⟨A.n,A.m,RB,SB⟩:=⟨k.n,k.m,hRt,hSt⟩
 have HRo:=Lib.hid (u8_one RB)
 have HOk:=Lib.hid hok
 have Ct:=Lib.hid ct
 have Cs:=Lib.hid cs
 have Cr:=Lib.hid cr
 have HRe:=Lib.hid hRe
 have Hwe:=Lib.hid hwe
 have hwl:=wcs_len A.m
 obtain ⟨AC,hAC⟩:∃ C,C=accs A:=⟨_,rfl⟩
 have hAl:AC.length=7:=by rw [hAC];rfl
 have hAo:Hid (AC.length=7):=Lib.hid hAl
 rw [←hAC] at hza hc5 hc6 hc0 hcm
 try simp only [←hAC] at ce ct
 have HWe:Hid (w1=(w.alloc (.cells AC.toArray 28)).alloc (.cells Tryz.zeroCells32 32)):=Lib.hid (by rw [hAC];exact hwe)
 obtain ⟨WV,hWV⟩:∃ W,W=wcs A.m:=⟨_,rfl⟩
 rw [←hWV] at hwl hcm
 have hbl:=built_lf HOk.out
 dsimp only at hbl
 rw [←hWV] at hbl
 have Hbl:=Lib.hid hbl
 clear hbl
 rw [←hAC]
 obtain ⟨E,hE⟩:∃ E,E=errA A:=⟨_,rfl⟩
 rw [←hE] at he
 simp only [←hE] at ce
 have Ce:=Lib.hid ce
 have Ct:=Lib.hid ct
 clear hw1 hwe hRe ct cs cr hct hcr hSB hq hR hSl hsn hcn hcv hsv hI hAC hWV k hok hrow hRt ce hE hC hby
 have rA:w1.rangeAt w.heap.size 0 AC:=hza.all0
 by_cases hE0:E=0
 ·have hq1:q=true:=by cases q with|true=>rfl|false=>rw [if_neg (by simp)] at he;omega
  subst hq1
  rw [if_pos rfl] at he
  have h24:¬ 1024<cn:=fun h=>by rw [if_pos h] at he;omega
  have HRe2:Hid (R=(⟨A.n,A.m,RB,SB⟩,0)):=Lib.hid (by rw [HRe.out,if_pos rfl,if_neg h24])
  have Ce:Hid (∀ u,Below w1.heap.size w1 u→Calls Tryz.prog 38 #[.agg AC.toArray] u fun e w'=>e=.returned (.int .i64 ((0:Nat):Int))∧Below u.heap.size u w'):=Lib.hid fun u hu=>by rw [←hE0];exact Ce.out u hu
  have rm:w1.rangeAt w.heap.size 1 WV:=by have:=hza.range 1 4;rw [hcm] at this;exact this
  clear h24 he hE0
  go_enter Tryz.func9,Tryz.ntmps9
  go_upto_region 5 with (first
   |((with_reducible show wpList _ _ _ (⟨some 7,_,_,_,_,_⟩::_) _ _);refine wpList_loadW (o:=⟨some 7,_,_,_,_,_⟩) 28 (.tmp 1) (by rfl) w.heap.size 0 (by rfl) aggAcc hAo.out (by rw [←HWe.out];exact rA) (by rfl) ?_)
   |(go_at_call 38;rw [←HWe.out];(with_reducible refine (Ce.out _ (Below.refl _ _)).mono ?_);rintro e w4 ⟨rfl,b4⟩;have hz4:=hz.kept b4;have hbel4:=Below.then hbel b4;have hza4:=hza.kept b4;have rA4:=hza4.all0)
   |((with_reducible show wpList _ _ _ (⟨some 14,_,_,_,_,_⟩::_) _ _);refine wpList_loadW (o:=⟨some 14,_,_,_,_,_⟩) 28 (.tmp 1) (by rfl) w.heap.size 0 (by rfl) aggAcc hAo.out rA4 (by rfl) ?_)
   |(go_at_call 40;(with_reducible refine (Ct.out _ b4).mono ?_);rintro e w5 ⟨y,rfl,iy,py,b5⟩)
   |(go_at_call 39;(with_reducible refine (Cr.out y _ iy py).mono ?_);rintro e w6 ⟨E6,rfl,b6⟩;have n6:=Blk.new w6 30 zh)
   |((with_reducible show wpList _ _ _ (⟨none,.store _ _ (.tmp 17),_,_,_,_⟩::_) _ _);refine wpList_storeA (o:=⟨none,_,_,_,_,_⟩) (by rfl) 30 (.tmp 5) (.tmp 17) (by rfl) w6.heap.size (by8 RB) (by rfl) (by rfl) aggHash' n6 hRl2 (by rfl) HRo.out ((Below.refl w6.heap.size w6).alloc (Nat.le_refl _) _) (Nat.le_refl _) ?_;intro w7 h7 b7 _;have b47:=Below.then (Below.then b5 b6) b7;have b17:=Below.then b4 b47;have hz7:=hz4.kept b47;have hza7:=hza4.kept b47;have hbel7:=Below.then hbel4 b47))

  have k0:=fun u:Ext w7=>u.cell ((hza7.cell 0).trans hc0)
  have k5:=fun u:Ext w7=>u.cell ((hza7.cell 5).trans hc5)
  have rm7:w7.rangeAt w.heap.size 1 WV:=by have:=hza7.range 1 4;rw [hcm] at this;exact this
  have Rm:=Lib.hid rm7
  have S7:=Lib.hid h7.all0
  have cs7:=fun u (hu:Below w7.heap.size w7 u)=>Cs.out u (Below.then b17 hu)
  have Cs7:=Lib.hid cs7
  clear rm rm7 hza7 cs7
  refine wp_region_typed w7 9 (by kernel_rfl) (by kernel_rfl) (Below.refl _ _) ?_;simp only [List.take_succ_cons,List.take_zero,List.take_nil]
  iterate 3 (refine wpX_step (by rfl) (fun K hK=>?_);go_simp;first|(refine hK _ ?_;clear hK K)|(apply Exists.intro;refine ⟨fun _=>?_,hK _ ?_⟩;fail;clear hK K))
  (refine wpX_step (by rfl) (fun K hK=>?_);rw [if_pos (by rfl)];refine ⟨_,fun u=>const_loadm _ (.tmp 21) (by rfl) _ _ (by rfl) aggWord hwl (rangeAt.ext Rm.out u),hK _ ?_⟩;clear hK K;simp only [Act.put,List.setIfInBounds_toArray,List.set_cons_zero,List.set_cons_succ])
  (refine wpX_step (by rfl) (fun K hK=>?_);rw [if_pos (by rfl)];refine ⟨_,fun u=>const_loadm _ (.tmp 5) (by rfl) _ _ (by rfl) aggHash' hRl2 (rangeAt.ext S7.out u),hK _ ?_⟩;clear hK K;simp only [Act.put,List.setIfInBounds_toArray,List.set_cons_zero,List.set_cons_succ])
  iterate 2 (refine wpX_step (by rfl) (fun K hK=>?_);go_simp;first|(refine hK _ ?_;clear hK K)|(apply Exists.intro;refine ⟨fun _=>?_,hK _ ?_⟩;fail;clear hK K))
  (refine wpX_step (by rfl) (fun K hK=>?_);go_simp;first|(refine hK _ ?_;clear hK K)|(apply Exists.intro;refine ⟨fun _=>?_,hK _ ?_⟩;exact Cs7.out _ (Subtype.property _);clear hK K))
  refine wpX_eq (.agg (lfcs ⟨A.n,A.m,RB,SB⟩).toArray) (fun w2 hw2=>?_) ?_
  ·simp only [relOf,List.filter_nil,List.filter_cons,forallRel]
   try simp only [forallRel]
   refine ⟨rfl,?_⟩
   exact good_build (o:=⟨some 27,_,_,_,_,_⟩) 32 [(0,.tmp 20),(1,.tmp 22),(2,.tmp 23),(3,.tmp 26)] (by rfl) _ (by rfl) _ Hbl.out rfl
  refine wpX_nil ?_
  intro u2 hb2
  change wpList _ _ _ [_,_] _ _
  have hz8:=hz7.kept hb2
  have hbel8:=Below.then hbel7 hb2
  have hlX:=lfcs_len HOk.out
  clear k0 k5
  try simp only [Act.put,List.setIfInBounds_toArray,List.set_cons_zero,List.set_cons_succ]
  go_wp2_with ((with_reducible show wpList _ _ _ (⟨none,.store _ _ (.tmp 27),_,_,_,_⟩::_) _ _);refine wpList_storeA (o:=⟨none,_,_,_,_,_⟩) (by rfl) 32 (.tmp 2) (.tmp 27) (by rfl) (w.heap.size+1) (lfcs ⟨A.n,A.m,RB,SB⟩) (by rfl) (by rfl) aggLf hz8 hlX hl69 (lfcs_one _) hbel8 (by omega) ?_;intro w9 h9 bel9 _)
  exact bodyPost_ret (v:=.tuple #[.agg (lfcs ⟨A.n,A.m,RB,SB⟩).toArray,.int .i64 0]) (results_blk_tmp rfl _ _ (w.heap.size+1) aggLf h9 hlX rfl rfl) rfl (by rw [HRe2.out];exact ⟨rfl,bel9⟩)
 ·have HRe2:Hid (R=(zL,(E:Int))):=Lib.hid (by
   rw [HRe.out]
   cases q with
   | false=>rw [if_neg (by simp)] at he ⊢;rw [he];rfl
   | true =>
    rw [if_pos rfl] at he ⊢
    by_cases h:1024<cn
    ·rw [if_pos h] at he ⊢;rw [he];rfl
    ·rw [if_neg h] at he;exact absurd he hE0)
  have hEi:((E:Int)==0)=false:=by rw [beq_eq_false_iff_ne];omega
  clear he hE0
  go_enter Tryz.func9,Tryz.ntmps9
  go_wp2_with (first
   |((with_reducible show wpList _ _ _ (⟨some 7,_,_,_,_,_⟩::_) _ _);refine wpList_loadW (o:=⟨some 7,_,_,_,_,_⟩) 28 (.tmp 1) (by rfl) w.heap.size 0 (by rfl) aggAcc hAo.out (by rw [←HWe.out];exact rA) (by rfl) ?_)
   |(go_at_call 38;rw [←HWe.out];(with_reducible refine (Ce.out _ (Below.refl _ _)).mono ?_);rintro e w4 ⟨rfl,b4⟩;have hz4:=hz.kept b4;have hbel4:=Below.then hbel b4)
   |((with_reducible show wpList _ _ _ (⟨none,.store _ _ (.tmp 11),_,_,_,_⟩::_) _ _);refine wpList_storeA (o:=⟨none,_,_,_,_,_⟩) (by rfl) 32 (.tmp 2) (.tmp 11) (by rfl) (w.heap.size+1) (lfcs zL) (by rfl) (by first|rfl|exact congrArg Value.agg zcLf) aggLf hz4 hl69 hl69 (lfcs_one _) hbel4 (by omega) ?_;intro w5 hh5 hbel5 _))
  exact bodyPost_ret (v:=.tuple #[.agg (lfcs zL).toArray,.int .i64 (E:Int)]) (results_blk_tmp rfl _ _ (w.heap.size+1) aggLf hh5 hl69 rfl rfl) rfl (by rw [HRe2.out];exact ⟨rfl,hbel5⟩)

theorem zN_one:∀ u∈ndcells zN,u.oneCell'=true:=by intro u hu;simp [zcells] at hu;rcases hu with rfl|rfl <;> rfl
theorem zN_blk (w:World):Blk 70 (w.alloc (.cells #[.int .i64 0,.slice none 0 0,.slice none 0 0,.slice none 0 0] 70)) w.heap.size (ndcells zN):=Blk.new w 70 (ndcells zN)
theorem zN_bel (w:World):Below w.heap.size w (w.alloc (.cells #[.int .i64 0,.slice none 0 0,.slice none 0 0,.slice none 0 0] 70)):=(Below.refl _ _).alloc (Nat.le_refl _) _
def ZPost (w:World)(e:Ending)(w':World):Prop:=e=.returned (.agg #[.int .i64 0,.slice none 0 0,.slice none 0 0,.slice none 0 0])∧Below w.heap.size w w'
def ZPost2 (w:World)(e:Ending)(w':World):Prop:=e=.returned (.tuple #[.agg #[.int .i64 0,.slice none 0 0,.slice none 0 0,.slice none 0 0],.int .i64 0])∧Below w.heap.size w w'
theorem zshow (w:World):Calls Tryz.prog 106 #[.nilIface] w (ZPost w):=by
 have hz:=zN_blk w
 have hbel:=zN_bel w
 have hone:=zN_one
 go_enter Tryz.func106,Tryz.ntmps106
 go_wp2_with ((with_reducible show wpList _ _ _ (⟨none,.store _ _ (.tmp 5),_,_,_,_⟩::_) _ _);refine wpList_storeA (o:=⟨none,_,_,_,_,_⟩) (by rfl) 70 (.tmp 2) (.tmp 5) (by rfl) w.heap.size (ndcells zN) (by rfl) (by rfl) aggNode hz (by rfl) (by rfl) hone hbel (Nat.le_refl _) ?_;intro w2 h2 b2 _)
 exact bodyPost_ret (results_blk rfl _ _ w.heap.size aggNode h2 rfl rfl) rfl ⟨rfl,b2⟩
theorem zof (w:World):Calls Tryz.prog 76 #[.slice none 0 0] w (ZPost2 w):=by
 have hz0:=zN_blk w
 have hbel0:=zN_bel w
 have hone:=zN_one
 go_enter Tryz.func76,Tryz.ntmps76
 go_wp2_with fail
 go_loopw [4,9] (fun nx ix wr=>nx=.nilIface∧ix=.int .i64 0∧Blk 70 wr w.heap.size (ndcells zN)∧Below w.heap.size w wr) (fun _ _ _=>0)
 case atStart=>exact ⟨rfl,rfl,hz0,hbel0⟩
 case round =>
  obtain ⟨rfl,rfl,hz,hbel⟩:=hrel
  clear hz0 hbel0
  go_wp2_with (first
   |(go_at_call 106;(with_reducible refine (zshow _).mono ?_);rintro e w6 ⟨rfl,b6⟩;have bb6:=Below.then hbel b6;have zz6:=hz.kept b6)
   |((with_reducible show wpList _ _ _ (⟨none,.store _ _ (.tmp 34),_,_,_,_⟩::_) _ _);refine wpList_storeA (o:=⟨none,_,_,_,_,_⟩) (by rfl) 70 (.tmp 2) (.tmp 34) (by rfl) w.heap.size (ndcells zN) (by rfl) (by rfl) aggNode zz6 (by rfl) (by rfl) hone bb6 (Nat.le_refl _) ?_;intro w7 h7 b7 g7))
  exact bodyPost_ret (v:=.tuple #[.agg (ndcells zN).toArray,.int .i64 0]) (results_blk_tmp rfl _ _ w.heap.size aggNode h7 rfl rfl rfl) rfl ⟨rfl,b7⟩
theorem zslotTree (w:World):Calls Tryz.prog 36 #[.slice none 0 0] w (ZPost w):=by
 have hz0:=zN_blk w
 have hbel0:=zN_bel w
 have hone:=zN_one
 go_enter Tryz.func36,Tryz.ntmps36
 go_wp2_with fail
 go_loopw [3,12] (fun px ix wr=>px=.slice none 0 0∧ix=.int .i64 0∧Blk 70 wr w.heap.size (ndcells zN)∧Below w.heap.size w wr) (fun _ _ _=>0)
 case atStart=>exact ⟨rfl,rfl,hz0,hbel0⟩
 case round =>
  obtain ⟨rfl,rfl,hz,hbel⟩:=hrel
  clear hz0 hbel0
  go_wp2_with (first
   |(go_at_call 76;(with_reducible refine (zof _).mono ?_);rintro e w6 ⟨rfl,b6⟩;have bb6:=(Below.then hbel b6).alloc (Below.then hbel b6).size (.cells #[.int .i64 0,.slice none 0 0,.slice none 0 0,.slice none 0 0] 70);have zz6:=(hz.kept b6).alloc (.cells #[.int .i64 0,.slice none 0 0,.slice none 0 0,.slice none 0 0] 70))
   |((with_reducible show wpList _ _ _ (⟨none,.store _ _ (.tmp 35),_,_,_,_⟩::_) _ _);refine wpList_storeA (o:=⟨none,_,_,_,_,_⟩) (by rfl) 70 (.tmp 2) (.tmp 35) (by rfl) w.heap.size (ndcells zN) (by rfl) (by rfl) aggNode zz6 (by rfl) (by rfl) hone bb6 (Nat.le_refl _) ?_;intro w7 h7 b7 g7))
  exact bodyPost_ret (results_blk rfl _ _ w.heap.size aggNode h7 rfl rfl) rfl ⟨rfl,b7⟩
theorem zgrown (w:World):Calls Tryz.prog 112 #[.slice none 0 0] w (ZPost w):=by
 have hz:=zN_blk w
 have hbel:=zN_bel w
 have hone:=zN_one
 go_enter Tryz.func112,Tryz.ntmps112
 go_wp2_with ((with_reducible show wpList _ _ _ (⟨none,.store _ _ (.tmp 12),_,_,_,_⟩::_) _ _);refine wpList_storeA (o:=⟨none,_,_,_,_,_⟩) (by rfl) 70 (.tmp 2) (.tmp 12) (by rfl) w.heap.size (ndcells zN) (by rfl) (by rfl) aggNode hz (by rfl) (by rfl) hone hbel (Nat.le_refl _) ?_;intro w2 h2 b2 _)
 exact bodyPost_ret (results_blk rfl _ _ w.heap.size aggNode h2 rfl rfl) rfl ⟨rfl,b2⟩
theorem zgof (w:World):Calls Tryz.prog 81 #[.slice none 0 0] w (ZPost2 w):=by
 have hz0:=zN_blk w
 have hbel0:=zN_bel w
 have hone:=zN_one
 go_enter Tryz.func81,Tryz.ntmps81
 go_wp2_with fail
 go_loopw [4,10] (fun nx ix wr=>nx=.slice none 0 0∧ix=.int .i64 0∧Blk 70 wr w.heap.size (ndcells zN)∧Below w.heap.size w wr) (fun _ _ _=>0)
 case atStart=>exact ⟨rfl,rfl,hz0,hbel0⟩
 case round =>
  obtain ⟨rfl,rfl,hz,hbel⟩:=hrel
  clear hz0 hbel0
  go_wp2_with (first
   |(go_at_call 112;(with_reducible refine (zgrown _).mono ?_);rintro e w6 ⟨rfl,b6⟩;have bb6:=Below.then hbel b6;have zz6:=hz.kept b6)
   |((with_reducible show wpList _ _ _ (⟨none,.store _ _ (.tmp 31),_,_,_,_⟩::_) _ _);refine wpList_storeA (o:=⟨none,_,_,_,_,_⟩) (by rfl) 70 (.tmp 2) (.tmp 31) (by rfl) w.heap.size (ndcells zN) (by rfl) (by rfl) aggNode zz6 (by rfl) (by rfl) hone bb6 (Nat.le_refl _) ?_;intro w7 h7 b7 g7))
  exact bodyPost_ret (v:=.tuple #[.agg (ndcells zN).toArray,.int .i64 0]) (results_blk_tmp rfl _ _ w.heap.size aggNode h7 rfl rfl rfl) rfl ⟨rfl,b7⟩
theorem zoslots (w:World):Calls Tryz.prog 40 #[.agg (accs zA).toArray] w (ZPost w):=by
 obtain ⟨w1,hw1⟩:∃ w1,w1=(w.alloc (.cells (accs zA).toArray 28)).alloc (.cells #[.int .i64 0,.slice none 0 0,.slice none 0 0,.slice none 0 0] 70):=⟨_,rfl⟩
 have hza:Blk 28 w1 w.heap.size (accs zA):=by rw [hw1];exact (Blk.new w _ _).alloc _
 have hz0:Blk 70 w1 (w.heap.size+1) (ndcells zN):=by
  have:=zN_blk (w.alloc (.cells (accs zA).toArray 28))
  simp only [World.size_alloc] at this
  rw [hw1];exact this
 have hbel0:Below w.heap.size w w1:=by rw [hw1];exact ((Below.refl _ _).alloc (Nat.le_refl _) _).alloc (by simp) _
 have c6:w1.cell? ⟨w.heap.size,6,none⟩=some (.slice none 0 0):=hza.cell 6
 have hone:=zN_one
 obtain ⟨AC,hAC⟩:∃ C,C=accs zA:=⟨_,rfl⟩
 rw [←hAC] at hw1 ⊢
 have Hw1:=Lib.hid hw1
 clear hza hAC hw1
 go_enter Tryz.func40,Tryz.ntmps40
 go_wp2_with (rw [←Hw1.out])
 go_loopw [3,11] (fun px ix wr=>px=.slice none 0 0∧ix=.int .i64 0∧Blk 70 wr (w.heap.size+1) (ndcells zN)∧Below w.heap.size w wr) (fun _ _ _=>0)
 case atStart=>exact ⟨rfl,rfl,hz0,hbel0⟩
 case round =>
  obtain ⟨rfl,rfl,hz,hbel⟩:=hrel
  clear hz0 hbel0 c6
  go_wp2_with (first
   |(go_at_call 81;(with_reducible refine (zgof _).mono ?_);rintro e w6 ⟨rfl,b6⟩;have bb6:=(Below.then hbel b6).alloc (Below.then hbel b6).size (.cells #[.int .i64 0,.slice none 0 0,.slice none 0 0,.slice none 0 0] 70);have zz6:=(hz.kept b6).alloc (.cells #[.int .i64 0,.slice none 0 0,.slice none 0 0,.slice none 0 0] 70))
   |((with_reducible show wpList _ _ _ (⟨none,.store _ _ (.tmp 32),_,_,_,_⟩::_) _ _);refine wpList_storeA (o:=⟨none,_,_,_,_,_⟩) (by rfl) 70 (.tmp 2) (.tmp 32) (by rfl) (w.heap.size+1) (ndcells zN) (by rfl) (by rfl) aggNode zz6 (by rfl) (by rfl) hone bb6 (by omega) ?_;intro w7 h7 b7 g7))
  exact bodyPost_ret (results_blk rfl _ _ (w.heap.size+1) aggNode h7 rfl rfl) rfl ⟨rfl,b7⟩
theorem zroutes (w:World):Calls Tryz.prog 118 #[.agg #[.int .i64 0,.slice none 0 0,.slice none 0 0,.slice none 0 0],.string ⟨#[]⟩] w fun e w'=>e=.returned (.tuple #[.slice none 0 0,.bool true])∧Below w.heap.size w w':=by
 have hz0:=zN_blk w
 have hbel0:=zN_bel w
 go_enter Tryz.func118,Tryz.ntmps118
 go_wp2_with fail
 go_loopw [16] (fun ix wr=>ix=.int .i64 0∧Blk 70 wr w.heap.size (ndcells zN)∧Below w.heap.size w wr) (fun _ _=>0)
 case atStart=>exact ⟨rfl,hz0,hbel0⟩
 case round =>
  obtain ⟨rfl,hz,hbel⟩:=hrel
  have c0:wr.cell? ⟨w.heap.size,0,none⟩=some (.int .i64 0):=hz.cell 0
  clear hz0 hbel0
  go_wp2_with fail
  go_ret2
  exact ⟨rfl,hbel⟩
theorem zsame (w:World):Calls Tryz.prog 119 #[.agg #[.int .i64 0,.slice none 0 0,.slice none 0 0,.slice none 0 0],.agg #[.int .i64 0,.slice none 0 0,.slice none 0 0,.slice none 0 0]] w fun e w'=>e=.returned (.bool true)∧Below w.heap.size w w':=by
 have hbel0:Below w.heap.size w ((w.alloc (.cells #[.int .i64 0,.slice none 0 0,.slice none 0 0,.slice none 0 0] 70)).alloc (.cells #[.int .i64 0,.slice none 0 0,.slice none 0 0,.slice none 0 0] 70)):=((Below.refl _ _).alloc (Nat.le_refl _) _).alloc (by simp) _
 go_enter Tryz.func119,Tryz.ntmps119
 go_wp2_with fail
 go_ret
 exact ⟨rfl,hbel0⟩
end Go.Proofs.YtcgpjceopnfahaaGreat
