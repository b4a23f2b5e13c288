/- world.Leaf, the reference's OLeaf (gen_lf11.py printed it). -/
import Derived.Test.YtbdmkfjgnjfjbaaGreatLazyServesK33
import Derived.Test.YtbdmkfjgnjfjbaaGreatLazyServesK35
set_option linter.unusedSimpArgs false
set_option linter.unusedVariables false
set_option maxHeartbeats 4000000
set_option maxRecDepth 100000
namespace Go.Proofs.YtbdmkfjgnjfjbaaGreat
open Go.RowKit
mutual
def ndP:Pn→Nd
 | .mk kd p v ks=>.mk kd (.slice none 0 0) p (.slice none 0 0) v (.slice none 0 0) (ndPL ks)
def ndPL:List Pn→List Nd
 | []=>[]
 | k::ks=>ndP k::ndPL ks
end
mutual
theorem er_nd:∀ T:Pn,erN (ndP T)=T
 | .mk kd p v ks=>by simp only [ndP,erN,er_ndL ks]
theorem er_ndL:∀ ks:List Pn,erNL (ndPL ks)=ks
 | []=>rfl
 | k::ks=>by simp only [ndPL,erNL,er_nd k,er_ndL ks]
end
def rtB (T:Pn):List UInt8:=if rgt 0 (ndP T)=true then sumB ((whN (ndP T)).headD []) else zeroB 32
theorem Qax (T:Pn):(rtB T).length=32:=by
 unfold rtB
 split
 ·exact Q0i _
 ·rfl
theorem rtC_B {t:Nd}{T:Pn}(h:erN t=T):rtC t=(rtB T).map u8v:=by
 rw [rtC_er (s:=ndP T) (by rw [er_nd,h])]
 unfold rtC rtB
 split
 ·rfl
 ·rfl
def lfA (A:Acc):Lf × Int:=if slotsB A.s then (if 1024<A.c.length then (zL,2) else (⟨A.n,A.m,rtB (trS A.s),sumB A.c⟩,0)) else (zL,1)
def lfB (A:Acc)(RB:List UInt8):Lf × Int:=if slotsB A.s then (if 1024<A.c.length then (zL,2) else (⟨A.n,A.m,RB,sumB A.c⟩,0)) else (zL,1)
theorem lfA_ok {A:Acc}(k:A.Ok):(lfA A).1.Ok:=by
 unfold lfA
 split
 ·split
  ·exact zL_ok
  ·exact ⟨k.n,k.m,Qax _,Q0i _⟩
 ·exact zL_ok
def LfPost (R:Lf × Int)(w:World)(e:Ending)(w':World):Prop:=e=.returned (.tuple #[.agg (lfcs R.1).toArray,.int .i64 R.2])∧Below w.heap.size w w'
theorem Qha (A:Acc)(k:A.Ok)(P:Nd→Prop)(RB:List UInt8)(hRt:RB.length=32)(w:World)(hI:A.In w)(hct:∀ u,Below w.heap.size w u→Calls Tryz.prog 36 #[A.sv] u fun e w'=>∃ y:Nd,e=.returned (.agg (Q03 y).toArray)∧IsNd w' y∧P y∧Below u.heap.size u w')(hcr:∀ (y:Nd) (u:World),IsNd u y→P y→Calls Tryz.prog 35 #[.agg (Q03 y).toArray] u fun e w'=>∃ E:Int,e=.returned (.tuple #[.agg (by8 RB).toArray,.int .i64 E])∧Below u.heap.size u w'):Calls Tryz.prog 8 #[.agg (accs A).toArray] w (LfPost (lfB A RB) w):=by
 obtain ⟨ca,cc,sa,sc,hcv,hsv⟩:=Q0w hI
 obtain ⟨w1,hw1⟩:∃ w1,w1=(w.alloc (.cells (accs A).toArray 28)).alloc (.cells (lfcs zL).toArray 32):=⟨_,rfl⟩
 have hza:Blk 28 w1 w.heap.size (accs A):=by rw [hw1];exact (Blk.new w _ _).alloc _
 have hz:Blk 32 w1 (w.heap.size+1) (lfcs zL):=by
  have:=Blk.new (w.alloc (.cells (accs A).toArray 28)) 32 (lfcs zL)
  simp only [World.size_alloc] at this
  rw [hw1];exact this
 have hbel:Below w.heap.size w w1:=by rw [hw1];exact (Qba _ _).alloc (by simp) _
 have hwe:w1=(w.alloc (.cells (accs A).toArray 28)).alloc (.cells Tryz.zeroCells32 32):=by rw [hw1,zcLf]
 have hl69:=Q2j zL_ok
 obtain ⟨Sl,hSl⟩:∃ s,s=A.s:=⟨_,rfl⟩
 obtain ⟨sn,hsn⟩:∃ s,s=Sl.length:=⟨_,rfl⟩
 obtain ⟨cn,hcn⟩:∃ s,s=A.c.length:=⟨_,rfl⟩
 obtain ⟨R,hR⟩:∃ R,R=lfB A RB:=⟨_,rfl⟩
 have hRe:R=if slotsB Sl then (if 1024<cn then (zL,2) else (⟨A.n,A.m,RB,sumB A.c⟩,0)) else (zL,1):=by rw [hR,hSl,hcn];rfl
 rw [←hR]
 have hc5:(accs A)[5]?=some (.slice ca cn cc):=by rw [hcn,←hcv];rfl
 have hc6:(accs A)[6]?=some (.slice sa sn sc):=by rw [hsn,hSl,←hsv];rfl
 have hc0:(accs A)[0]?=some (.int .u64 (A.n:Int)):=rfl
 have hcm:((accs A).drop 1).take 4=wcs A.m:=Q3o [u64v A.n] _ _ 1 4 rfl (Q0u _)
 have hrow:RowOf spc 8 w1 (.slice sa sn sc) Sl:=by have:=(hI.below hbel).2;rw [hsv,←hSl,←hsn] at this;exact this
 have hby:Bytes w1 (.slice ca cn cc) A.c:=by have:=(hI.below hbel).1;rw [hcv,←hcn] at this;exact this
 have c1:=fun u (hu:Below w1.heap.size w1 u)=>Q3u sa sn sc Sl hsn.symm (by rw [hSl];exact k.s) u (hrow.below hu)
 have hsv2:A.sv=.slice sa sn sc:=by rw [hsv,hsn,hSl]
 have ct:=fun u (hu:Below w1.heap.size w1 u)=>hct u (Below.then hbel hu)
 rw [hsv2] at ct
 have cs:∀ u,Below w1.heap.size w1 u→Calls Tryz.prog 37 #[.slice ca cn cc] u fun e w'=>e=.returned (.agg ((sumB A.c).map u8v).toArray)∧Below u.heap.size u w':=fun u hu=>Q3w ca cn cc A.c hcn.symm u (hby.below hu)
 have cr:=hcr
 obtain ⟨q,hq⟩:∃ q,q=slotsB Sl:=⟨_,rfl⟩
 rw [←hq] at hRe c1
 have hSt:(sumB A.c).length=32:=Q0i _
 obtain ⟨SB,hSB⟩:∃ B,B=sumB A.c:=⟨_,rfl⟩
 rw [←hSB] at cs hRe hSt
 have hRl2:(by8 RB).length=32:=by rw [Q0n];exact hRt
 change ∀ u,Below w1.heap.size w1 u→Calls _ _ _ u (fun e w'=>e=.returned (.agg (by8 SB).toArray)∧Below u.heap.size u w') at cs
 have hok:Lf.Ok ⟨A.n,A.m,RB,SB⟩:=⟨k.n,k.m,hRt,hSt⟩
 have HRo:=Qhd (u8_one RB)
 have HOk:=Qhd hok
 have Ct:=Qhd ct
 have Cs:=Qhd cs
 have Cr:=Qhd cr
 have HRe:=Qhd hRe
 have Hwe:=Qhd hwe
 have hwl:=Q0u A.m
 obtain ⟨AC,hAC⟩:∃ C,C=accs A:=⟨_,rfl⟩
 have hAl:AC.length=7:=by rw [hAC];rfl
 have hAo:Hid (AC.length=7):=Qhd hAl
 rw [←hAC] at hza hc5 hc6 hc0 hcm
 try simp only [←hAC] at c1
 have HWe:Hid (w1=(w.alloc (.cells AC.toArray 28)).alloc (.cells Tryz.zeroCells32 32)):=Qhd (by rw [hAC];exact hwe)
 obtain ⟨WV,hWV⟩:∃ W,W=wcs A.m:=⟨_,rfl⟩
 rw [←hWV] at hwl hcm
 have hbl:=Qdm HOk.out
 dsimp only at hbl
 rw [←hWV] at hbl
 have Hbl:=Qhd hbl
 clear hbl
 rw [←hAC]
 have C1:=Qhd c1
 clear hw1 hwe hRe ct cs cr hct hcr hSB hq hR hSl hsn hcn hcv hsv hI hAC hWV k hok hrow hRt c1 hsv2
 have d6:w1.cell? ⟨w.heap.size,6,none⟩=some (.slice sa sn sc):=(hza.cell 6).trans hc6
 cases q with
 | false =>
  go_enter Tryz.func8,Tryz.ntmps8
  go_wp2_with (first
   |(rw [←HWe.out])|(go_at_call 34;(with_reducible refine (C1.out _ (Below.refl _ _)).mono ?_);rintro e w4 ⟨rfl,b4⟩;have hz4:=hz.kept b4;have hbel4:=Below.then hbel b4)
   |((with_reducible refine Qgs 11 ?_);refine Q0j (o:=⟨none,_,_,_,_,_⟩) (by rfl) 32 (.tmp 2) (.tmp 11) (by rfl) (w.heap.size+1) (lfcs zL) (by rfl) (by first|rfl|exact congrArg Value.agg zcLf) aggLf hz4 hl69 hl69 (Q2z _) hbel4 (by omega) ?_;intro w5 hh5 hbel5 _))
  exact bodyPost_ret (v:=.tuple #[.agg (lfcs zL).toArray,.int .i64 1]) (Q04 rfl _ _ (w.heap.size+1) aggLf hh5 hl69 rfl rfl) rfl (by rw [HRe.out];exact ⟨rfl,hbel5⟩)
 | true =>
  have rm:w1.rangeAt w.heap.size 1 WV:=by have:=hza.range 1 4;rw [hcm] at this;exact this
  by_cases h24:1024<cn
  ·have h24i:(1024:Int)<(cn:Int):=by omega
   have HRe2:Hid (R=(zL,2)):=Qhd (by rw [HRe.out,if_pos rfl,if_pos h24])
   clear h24
   go_enter Tryz.func8,Tryz.ntmps8
   go_wp2_with (first
    |(rw [←HWe.out])|(go_at_call 34;(with_reducible refine (C1.out _ (Below.refl _ _)).mono ?_);rintro e w4 ⟨rfl,b4⟩;have hz4:=hz.kept b4;have hbel4:=Below.then hbel b4;have d5:w4.cell? ⟨w.heap.size,5,none⟩=some (.slice ca cn cc):=((hza.kept b4).cell 5).trans hc5)
    |((with_reducible refine Qgs 17 ?_);refine Q0j (o:=⟨none,_,_,_,_,_⟩) (by rfl) 32 (.tmp 2) (.tmp 17) (by rfl) (w.heap.size+1) (lfcs zL) (by rfl) (by first|rfl|exact congrArg Value.agg zcLf) aggLf hz4 hl69 hl69 (Q2z _) hbel4 (by omega) ?_;intro w5 hh5 hbel5 _))
   exact bodyPost_ret (v:=.tuple #[.agg (lfcs zL).toArray,.int .i64 2]) (Q04 rfl _ _ (w.heap.size+1) aggLf hh5 hl69 rfl rfl) rfl (by rw [HRe2.out];exact ⟨rfl,hbel5⟩)
  ·have h24i:¬ (1024:Int)<(cn:Int):=by omega
   have HRe2:Hid (R=(⟨A.n,A.m,RB,SB⟩,0)):=Qhd (by rw [HRe.out,if_pos rfl,if_neg h24])
   clear h24
   go_enter Tryz.func8,Tryz.ntmps8
   go_upto_region 6 with (first
    |(rw [←HWe.out])|(go_at_call 34;(with_reducible refine (C1.out _ (Below.refl _ _)).mono ?_);rintro e w4 ⟨rfl,b4⟩;have hz4:=hz.kept b4;have hbel4:=Below.then hbel b4;have hza4:=hza.kept b4;have d5:w4.cell? ⟨w.heap.size,5,none⟩=some (.slice ca cn cc):=(hza4.cell 5).trans hc5;have e6:w4.cell? ⟨w.heap.size,6,none⟩=some (.slice sa sn sc):=(hza4.cell 6).trans hc6)
    |(go_at_call 36;(with_reducible refine (Ct.out _ b4).mono ?_);rintro e w5 ⟨y,rfl,iy,py,b5⟩)
    |(go_at_call 35;(with_reducible refine (Cr.out y _ iy py).mono ?_);rintro e w6 ⟨E6,rfl,b6⟩;have n6:=Blk.new w6 30 zh)
    |((with_reducible refine Qgs 23 ?_);refine Qsa 30 4 23 w6.heap.size (by8 RB) Q0l n6 hRl2 (by rfl) HRo.out (Qba w6 _) (Nat.le_refl _) ?_;intro w7 h7 b7 _;have b47:=Below.then (Below.then b5 b6) b7;have b17:=Below.then b4 b47;have hz7:=hz4.kept b47;have hza7:=hza4.kept b47;have hbel7:=Below.then hbel4 b47))

   have k0:=fun u:Ext w7=>u.cell ((hza7.cell 0).trans hc0)
   have k5:=fun u:Ext w7=>u.cell ((hza7.cell 5).trans hc5)
   have rm7:w7.rangeAt w.heap.size 1 WV:=by have:=hza7.range 1 4;rw [hcm] at this;exact this
   have Rm:=Qhd rm7
   have S7:=Qhd h7.all0
   have cs7:=fun u (hu:Below w7.heap.size w7 u)=>Cs.out u (Below.then b17 hu)
   have Cs7:=Qhd cs7
   clear rm rm7 hza7 cs7
   refine Q02 w7 9 (by kernel_rfl) (by kernel_rfl) (Below.refl _ _) ?_;simp only [List.take_succ_cons,List.take_zero,List.take_nil]
   iterate 3 (refine Q01 (by rfl) (fun K hK=>?_);go_simp;refine hK _ ?_;clear hK K)
   (refine Q01 (by rfl) (fun K hK=>?_);rw [if_pos (by rfl)];refine ⟨_,fun u=>Q08 _ (.tmp 27) (by rfl) _ _ (by rfl) Q0f hwl (rangeAt.ext Rm.out u),hK _ ?_⟩;clear hK K;simp only [Act.put,Qzs])
   (refine Q01 (by rfl) (fun K hK=>?_);rw [if_pos (by rfl)];refine ⟨_,fun u=>Q08 _ (.tmp 4) (by rfl) _ _ (by rfl) Q0l hRl2 (rangeAt.ext S7.out u),hK _ ?_⟩;clear hK K;simp only [Act.put,Qzs])
   iterate 2 (refine Q01 (by rfl) (fun K hK=>?_);go_simp;refine hK _ ?_;clear hK K)
   (refine Q01 (by rfl) (fun K hK=>?_);go_simp;first|(refine hK _ ?_;clear hK K)|(apply Exists.intro;refine ⟨fun _=>?_,hK _ ?_⟩;exact Cs7.out _ (Subtype.property _);clear hK K))
   refine wpX_eq (.agg (lfcs ⟨A.n,A.m,RB,SB⟩).toArray) (fun w2 hw2=>?_) ?_
   ·simp only [relOf,List.filter_nil,List.filter_cons,Q00]
    try simp only [Q00]
    refine ⟨rfl,?_⟩
    exact Q7o (o:=⟨some 33,_,_,_,_,_⟩) 32 [(0,.tmp 26),(1,.tmp 28),(2,.tmp 29),(3,.tmp 32)] (by rfl) _ (by rfl) _ Hbl.out rfl
   refine Q09 ?_
   intro u2 hb2
   change wpList _ _ _ [_,_] _ _
   have hz8:=hz7.kept hb2
   have hbel8:=Below.then hbel7 hb2
   have hlX:=Q2j HOk.out
   clear k0 k5
   try simp only [Act.put,Qzs]
   go_wp2_with ((with_reducible refine Qgs 33 ?_);refine Qsa 32 2 33 (w.heap.size+1) (lfcs ⟨A.n,A.m,RB,SB⟩) aggLf hz8 hlX hl69 (Q2z _) hbel8 (by omega) ?_;intro w9 h9 bel9 _)
   exact bodyPost_ret (v:=.tuple #[.agg (lfcs ⟨A.n,A.m,RB,SB⟩).toArray,.int .i64 0]) (Q04 rfl _ _ (w.heap.size+1) aggLf h9 hlX rfl rfl) rfl (by rw [HRe2.out];exact ⟨rfl,bel9⟩)
theorem Qek (A:Acc)(k:A.Ok)(hC:A.c.length≤1048576)(P:Nd→Prop)(RB:List UInt8)(hRt:RB.length=32)(w:World)(hI:A.In w)(hct:∀ u,Below w.heap.size w u→Calls Tryz.prog 40 #[.agg (accs A).toArray] u fun e w'=>∃ y:Nd,e=.returned (.agg (Q03 y).toArray)∧IsNd w' y∧P y∧Below u.heap.size u w')(hcr:∀ (y:Nd) (u:World),IsNd u y→P y→Calls Tryz.prog 39 #[.agg (Q03 y).toArray] u fun e w'=>∃ E:Int,e=.returned (.tuple #[.agg (by8 RB).toArray,.int .i64 E])∧Below u.heap.size u w'):Calls Tryz.prog 9 #[.agg (accs A).toArray] w (LfPost (lfB A RB) w):=by
 obtain ⟨ca,cc,sa,sc,hcv,hsv⟩:=Q0w hI
 obtain ⟨w1,hw1⟩:∃ w1,w1=(w.alloc (.cells (accs A).toArray 28)).alloc (.cells (lfcs zL).toArray 32):=⟨_,rfl⟩
 have hza:Blk 28 w1 w.heap.size (accs A):=by rw [hw1];exact (Blk.new w _ _).alloc _
 have hz:Blk 32 w1 (w.heap.size+1) (lfcs zL):=by
  have:=Blk.new (w.alloc (.cells (accs A).toArray 28)) 32 (lfcs zL)
  simp only [World.size_alloc] at this
  rw [hw1];exact this
 have hbel:Below w.heap.size w w1:=by rw [hw1];exact (Qba _ _).alloc (by simp) _
 have hwe:w1=(w.alloc (.cells (accs A).toArray 28)).alloc (.cells Tryz.zeroCells32 32):=by rw [hw1,zcLf]
 have hl69:=Q2j zL_ok
 obtain ⟨Sl,hSl⟩:∃ s,s=A.s:=⟨_,rfl⟩
 obtain ⟨sn,hsn⟩:∃ s,s=Sl.length:=⟨_,rfl⟩
 obtain ⟨cn,hcn⟩:∃ s,s=A.c.length:=⟨_,rfl⟩
 obtain ⟨R,hR⟩:∃ R,R=lfB A RB:=⟨_,rfl⟩
 have hRe:R=if slotsB Sl then (if 1024<cn then (zL,2) else (⟨A.n,A.m,RB,sumB A.c⟩,0)) else (zL,1):=by rw [hR,hSl,hcn];rfl
 rw [←hR]
 have hc5:(accs A)[5]?=some (.slice ca cn cc):=by rw [hcn,←hcv];rfl
 have hc6:(accs A)[6]?=some (.slice sa sn sc):=by rw [hsn,hSl,←hsv];rfl
 have hc0:(accs A)[0]?=some (.int .u64 (A.n:Int)):=rfl
 have hcm:((accs A).drop 1).take 4=wcs A.m:=Q3o [u64v A.n] _ _ 1 4 rfl (Q0u _)
 have hrow:RowOf spc 8 w1 (.slice sa sn sc) Sl:=by have:=(hI.below hbel).2;rw [hsv,←hSl,←hsn] at this;exact this
 have hby:Bytes w1 (.slice ca cn cc) A.c:=by have:=(hI.below hbel).1;rw [hcv,←hcn] at this;exact this
 have he:errA A=if slotsB Sl then (if 1024<cn then 2 else 0) else 1:=by rw [hSl,hcn];rfl
 have ce:=fun u (hu:Below w1.heap.size w1 u)=>Q7e A k u ((hI.below hbel).below hu)
 have ct:=fun u (hu:Below w1.heap.size w1 u)=>hct u (Below.then hbel hu)
 have cs:∀ u,Below w1.heap.size w1 u→Calls Tryz.prog 41 #[.slice ca cn cc] u fun e w'=>e=.returned (.agg ((sumB A.c).map u8v).toArray)∧Below u.heap.size u w':=fun u hu=>Q59 ca cn cc A.c hcn.symm u (hby.below hu) (by omega)
 have cr:=hcr
 obtain ⟨q,hq⟩:∃ q,q=slotsB Sl:=⟨_,rfl⟩
 rw [←hq] at hRe he
 have hSt:(sumB A.c).length=32:=Q0i _
 obtain ⟨SB,hSB⟩:∃ B,B=sumB A.c:=⟨_,rfl⟩
 rw [←hSB] at cs hRe hSt
 have hRl2:(by8 RB).length=32:=by rw [Q0n];exact hRt
 change ∀ u,Below w1.heap.size w1 u→Calls _ _ _ u (fun e w'=>e=.returned (.agg (by8 SB).toArray)∧Below u.heap.size u w') at cs
 have hok:Lf.Ok ⟨A.n,A.m,RB,SB⟩:=⟨k.n,k.m,hRt,hSt⟩
 have HRo:=Qhd (u8_one RB)
 have HOk:=Qhd hok
 have Ct:=Qhd ct
 have Cs:=Qhd cs
 have Cr:=Qhd cr
 have HRe:=Qhd hRe
 have Hwe:=Qhd hwe
 have hwl:=Q0u A.m
 obtain ⟨AC,hAC⟩:∃ C,C=accs A:=⟨_,rfl⟩
 have hAl:AC.length=7:=by rw [hAC];rfl
 have hAo:Hid (AC.length=7):=Qhd hAl
 rw [←hAC] at hza hc5 hc6 hc0 hcm
 try simp only [←hAC] at ce ct
 have HWe:Hid (w1=(w.alloc (.cells AC.toArray 28)).alloc (.cells Tryz.zeroCells32 32)):=Qhd (by rw [hAC];exact hwe)
 obtain ⟨WV,hWV⟩:∃ W,W=wcs A.m:=⟨_,rfl⟩
 rw [←hWV] at hwl hcm
 have hbl:=Qdm HOk.out
 dsimp only at hbl
 rw [←hWV] at hbl
 have Hbl:=Qhd hbl
 clear hbl
 rw [←hAC]
 obtain ⟨E,hE⟩:∃ E,E=errA A:=⟨_,rfl⟩
 rw [←hE] at he
 simp only [←hE] at ce
 have Ce:=Qhd ce
 have Ct:=Qhd ct
 clear hw1 hwe hRe ct cs cr hct hcr hSB hq hR hSl hsn hcn hcv hsv hI hAC hWV k hok hrow hRt ce hE hC hby
 have rA:w1.rangeAt w.heap.size 0 AC:=hza.all0
 by_cases hE0:E=0
 ·have hq1:q=true:=by cases q with|true=>rfl|false=>rw [if_neg (by simp)] at he;omega
  subst hq1
  rw [if_pos rfl] at he
  have h24:¬ 1024<cn:=fun h=>by rw [if_pos h] at he;omega
  have HRe2:Hid (R=(⟨A.n,A.m,RB,SB⟩,0)):=Qhd (by rw [HRe.out,if_pos rfl,if_neg h24])
  have Ce:Hid (∀ u,Below w1.heap.size w1 u→Calls Tryz.prog 38 #[.agg AC.toArray] u fun e w'=>e=.returned (.int .i64 ((0:Nat):Int))∧Below u.heap.size u w'):=Qhd fun u hu=>by rw [←hE0];exact Ce.out u hu
  have rm:w1.rangeAt w.heap.size 1 WV:=by have:=hza.range 1 4;rw [hcm] at this;exact this
  clear h24 he hE0
  go_enter Tryz.func9,Tryz.ntmps9
  go_upto_region 5 with (first
   |((with_reducible refine Qgl 7 ?_);refine Qlw 28 1 w.heap.size 0 aggAcc hAo.out (by rw [←HWe.out];exact rA) ?_)
   |(go_at_call 38;rw [←HWe.out];(with_reducible refine (Ce.out _ (Below.refl _ _)).mono ?_);rintro e w4 ⟨rfl,b4⟩;have hz4:=hz.kept b4;have hbel4:=Below.then hbel b4;have hza4:=hza.kept b4;have rA4:=hza4.all0)
   |((with_reducible refine Qgl 14 ?_);refine Qlw 28 1 w.heap.size 0 aggAcc hAo.out rA4 ?_)
   |(go_at_call 40;(with_reducible refine (Ct.out _ b4).mono ?_);rintro e w5 ⟨y,rfl,iy,py,b5⟩)
   |(go_at_call 39;(with_reducible refine (Cr.out y _ iy py).mono ?_);rintro e w6 ⟨E6,rfl,b6⟩;have n6:=Blk.new w6 30 zh)
   |((with_reducible refine Qgs 17 ?_);refine Qsa 30 5 17 w6.heap.size (by8 RB) Q0l n6 hRl2 (by rfl) HRo.out (Qba w6 _) (Nat.le_refl _) ?_;intro w7 h7 b7 _;have b47:=Below.then (Below.then b5 b6) b7;have b17:=Below.then b4 b47;have hz7:=hz4.kept b47;have hza7:=hza4.kept b47;have hbel7:=Below.then hbel4 b47))

  have k0:=fun u:Ext w7=>u.cell ((hza7.cell 0).trans hc0)
  have k5:=fun u:Ext w7=>u.cell ((hza7.cell 5).trans hc5)
  have rm7:w7.rangeAt w.heap.size 1 WV:=by have:=hza7.range 1 4;rw [hcm] at this;exact this
  have Rm:=Qhd rm7
  have S7:=Qhd h7.all0
  have cs7:=fun u (hu:Below w7.heap.size w7 u)=>Cs.out u (Below.then b17 hu)
  have Cs7:=Qhd cs7
  clear rm rm7 hza7 cs7
  refine Q02 w7 9 (by kernel_rfl) (by kernel_rfl) (Below.refl _ _) ?_;simp only [List.take_succ_cons,List.take_zero,List.take_nil]
  iterate 3 (refine Q01 (by rfl) (fun K hK=>?_);go_simp;refine hK _ ?_;clear hK K)
  (refine Q01 (by rfl) (fun K hK=>?_);rw [if_pos (by rfl)];refine ⟨_,fun u=>Q08 _ (.tmp 21) (by rfl) _ _ (by rfl) Q0f hwl (rangeAt.ext Rm.out u),hK _ ?_⟩;clear hK K;simp only [Act.put,Qzs])
  (refine Q01 (by rfl) (fun K hK=>?_);rw [if_pos (by rfl)];refine ⟨_,fun u=>Q08 _ (.tmp 5) (by rfl) _ _ (by rfl) Q0l hRl2 (rangeAt.ext S7.out u),hK _ ?_⟩;clear hK K;simp only [Act.put,Qzs])
  iterate 2 (refine Q01 (by rfl) (fun K hK=>?_);go_simp;refine hK _ ?_;clear hK K)
  (refine Q01 (by rfl) (fun K hK=>?_);go_simp;first|(refine hK _ ?_;clear hK K)|(apply Exists.intro;refine ⟨fun _=>?_,hK _ ?_⟩;exact Cs7.out _ (Subtype.property _);clear hK K))
  refine wpX_eq (.agg (lfcs ⟨A.n,A.m,RB,SB⟩).toArray) (fun w2 hw2=>?_) ?_
  ·simp only [relOf,List.filter_nil,List.filter_cons,Q00]
   try simp only [Q00]
   refine ⟨rfl,?_⟩
   exact Q7o (o:=⟨some 27,_,_,_,_,_⟩) 32 [(0,.tmp 20),(1,.tmp 22),(2,.tmp 23),(3,.tmp 26)] (by rfl) _ (by rfl) _ Hbl.out rfl
  refine Q09 ?_
  intro u2 hb2
  change wpList _ _ _ [_,_] _ _
  have hz8:=hz7.kept hb2
  have hbel8:=Below.then hbel7 hb2
  have hlX:=Q2j HOk.out
  clear k0 k5
  try simp only [Act.put,Qzs]
  go_wp2_with ((with_reducible refine Qgs 27 ?_);refine Qsa 32 2 27 (w.heap.size+1) (lfcs ⟨A.n,A.m,RB,SB⟩) aggLf hz8 hlX hl69 (Q2z _) hbel8 (by omega) ?_;intro w9 h9 bel9 _)
  exact bodyPost_ret (v:=.tuple #[.agg (lfcs ⟨A.n,A.m,RB,SB⟩).toArray,.int .i64 0]) (Q04 rfl _ _ (w.heap.size+1) aggLf h9 hlX rfl rfl) rfl (by rw [HRe2.out];exact ⟨rfl,bel9⟩)
 ·have HRe2:Hid (R=(zL,(E:Int))):=Qhd (by
   rw [HRe.out]
   cases q with
   | false=>rw [if_neg (by simp)] at he ⊢;rw [he];rfl
   | true =>
    rw [if_pos rfl] at he ⊢
    by_cases h:1024<cn
    ·rw [if_pos h] at he ⊢;rw [he];rfl
    ·rw [if_neg h] at he;exact absurd he hE0)
  have hEi:((E:Int)==0)=false:=by rw [beq_eq_false_iff_ne];omega
  clear he hE0
  go_enter Tryz.func9,Tryz.ntmps9
  go_wp2_with (first
   |((with_reducible refine Qgl 7 ?_);refine Qlw 28 1 w.heap.size 0 aggAcc hAo.out (by rw [←HWe.out];exact rA) ?_)
   |(go_at_call 38;rw [←HWe.out];(with_reducible refine (Ce.out _ (Below.refl _ _)).mono ?_);rintro e w4 ⟨rfl,b4⟩;have hz4:=hz.kept b4;have hbel4:=Below.then hbel b4)
   |((with_reducible refine Qgs 11 ?_);refine Q0j (o:=⟨none,_,_,_,_,_⟩) (by rfl) 32 (.tmp 2) (.tmp 11) (by rfl) (w.heap.size+1) (lfcs zL) (by rfl) (by first|rfl|exact congrArg Value.agg zcLf) aggLf hz4 hl69 hl69 (Q2z _) hbel4 (by omega) ?_;intro w5 hh5 hbel5 _))
  exact bodyPost_ret (v:=.tuple #[.agg (lfcs zL).toArray,.int .i64 (E:Int)]) (Q04 rfl _ _ (w.heap.size+1) aggLf hh5 hl69 rfl rfl) rfl (by rw [HRe2.out];exact ⟨rfl,hbel5⟩)

theorem Qk2 (A:Acc)(k:A.Ok)(hN:A.s.length≤1048576)(w:World)(hI:A.In w):Calls Tryz.prog 8 #[.agg (accs A).toArray] w (LfPost (lfA A) w) :=
 Qha A k (fun y=>erN y=trS A.s) (rtB (trS A.s)) (Qax _) w hI (fun u hu=>by
  obtain ⟨sa,sc,hsv,_⟩:=hI.2.form
  have hr:=(hI.below hu).2
  rw [hsv] at hr ⊢
  exact (Q54 sa _ sc A.s rfl hN u hr).mono fun e w' ⟨y,h1,h2,h3,h4⟩=>⟨y,h1,h2.is,h3,h4⟩) (fun y u hy he=>(Qg5 y u hy (Q5m (sKV A.s) (by unfold sKV;rw [List.length_map];exact hN) (by rw [he];rfl))).mono fun e w' h=>⟨if rgt 0 y=true then 0 else 1,by rw [h.1,rtC_B he];rfl,h.2⟩)
theorem Qgt (A:Acc)(k:A.Ok)(hN:A.s.length≤1048576)(hC:A.c.length≤1048576)(w:World)(hI:A.In w):Calls Tryz.prog 9 #[.agg (accs A).toArray] w (LfPost (lfA A) w) :=
 Qek A k hC (fun y=>erN y=trS A.s) (rtB (trS A.s)) (Qax _) w hI (fun u hu=>(Q7c A hN u (hI.below hu)).mono fun e w' ⟨y,h1,h2,h3,h4⟩=>⟨y,h1,h2.is,h3,h4⟩) (fun y u hy he=>(Qhr y u hy (Q5m (sKV A.s) (by unfold sKV;rw [List.length_map];exact hN) (by rw [he];rfl))).mono fun e w' h=>⟨if rgt 0 y=true then 0 else 1,by rw [h.1,rtC_B he];rfl,h.2⟩)
end Go.Proofs.YtbdmkfjgnjfjbaaGreat
