/- The reference's OReadLeaf: four kids; whatever the bytes. -/
import Derived.Test.YtcgpjceopnfahaaGreatWorldChecksK29
import Derived.Test.YtcgpjceopnfahaaGreatWorldChecksK26
import Derived.Test.YtcgpjceopnfahaaGreatWorldChecksK05
import Derived.Deep.MidRow
set_option linter.unusedSimpArgs false
set_option linter.unusedVariables false
set_option maxHeartbeats 4000000
set_option maxRecDepth 100000
namespace Go.Proofs.YtcgpjceopnfahaaGreat
open Go.RowKit
theorem lf_setN (N:Nat):(lfcs zL).set 0 (u64v N)=lfcs ⟨N,0,zeroB 32,zeroB 32⟩:=rfl
theorem lf_setM (N M:Nat):setsL (lfcs ⟨N,0,zeroB 32,zeroB 32⟩) 1 (wcs M)=lfcs ⟨N,M,zeroB 32,zeroB 32⟩ :=
 setsL_app (wcs 0) (wcs M) (by rw [wcs_len,wcs_len]) (by8 (zeroB 32)++by8 (zeroB 32)) [u64v N]
theorem lf_cpS (N M:Nat)(t:List UInt8):splice (lfcs ⟨N,M,zeroB 32,zeroB 32⟩) 5 (by8 (t.take 32))=lfcs ⟨N,M,cpy 32 t,zeroB 32⟩:=by
 have e:∀ x,lfcs ⟨N,M,x,zeroB 32⟩=([u64v N]++wcs M)++(by8 x++by8 (zeroB 32)):=by intro x;unfold lfcs;simp only [List.append_assoc]
 rw [e (cpy 32 t),e (zeroB 32)]
 exact splice_at _ _ _ t 5 32 (by simp only [List.length_append,wcs_len,List.length_cons,List.length_nil]) rfl
theorem lf_cpC (N M:Nat)(s t:List UInt8)(hs:s.length=32):splice (lfcs ⟨N,M,s,zeroB 32⟩) 37 (by8 (t.take 32))=lfcs ⟨N,M,s,cpy 32 t⟩:=by
 have e:∀ x,lfcs ⟨N,M,s,x⟩=([u64v N]++(wcs M++by8 s))++(by8 x++[]):=by intro x;unfold lfcs;simp only [List.append_assoc,List.append_nil]
 rw [e (cpy 32 t),e (zeroB 32)]
 exact splice_at _ _ _ t 37 32 (by simp only [List.length_append,wcs_len,by8_len,hs,List.length_cons,List.length_nil]) rfl
theorem lf_there {l:Lf}(k:l.Ok){u:World}{g:Nat}(h:Blk 32 u g (lfcs l)):u.there g 1 4:=fun i hi=>by
 obtain ⟨y,hy⟩:=h.has (1+i) (by rw [lfcs_len k];omega)
 exact ⟨by rw [hy];rfl,h.free (1+i)⟩
structure RoW (w w1:World)(g4 g6:Nat)(box cs:List Value)(u:World):Prop where
 hb:Below w.heap.size w u
 hk:Below w1.heap.size w1 u
 hz:Blk 32 u w.heap.size (lfcs zL)
 h4:Blk 77 u g4 box
 hh:Blk 32 u g6 cs
 h0:w.heap.size<w1.heap.size
 h1:w1.heap.size≤g4
 h2:g4<g6
section
variable {w w1 u u':World} {g4 g6:Nat} {box cs:List Value}
theorem RoW.kept (h:RoW w w1 g4 g6 box cs u)(hb:Below u.heap.size u u'):RoW w w1 g4 g6 box cs u' :=
 ⟨Below.then h.hb hb,Below.then h.hk hb,h.hz.kept hb,h.h4.kept hb,h.hh.kept hb,h.h0,h.h1,h.h2⟩
theorem RoW.grown {cs':List Value}(h:RoW w w1 g4 g6 box cs u)(hg:u.grownBy u' (some g6))(hh:Blk 32 u' g6 cs'):RoW w w1 g4 g6 box cs' u':=by
 have h0:=h.h0
 have h1:=h.h1
 have h2:=h.h2
 exact ⟨h.hb.grown hg h.hb.size (fun j hj=>by cases hj;omega),h.hk.grown hg h.hk.size (fun j hj=>by cases hj;omega),h.hz.grown hg (by simp;omega),h.h4.grown hg (by simp;omega),hh,h0,h1,h2⟩
theorem RoW.put {cs':List Value}(h:RoW w w1 g4 g6 box cs u)(hb:Below g6 u u')(hh:Blk 32 u' g6 cs'):RoW w w1 g4 g6 box cs' u':=by
 have h0:=h.h0
 have h1:=h.h1
 have h2:=h.h2
 exact ⟨h.hb.trans (hb.mono (by omega)),h.hk.trans (hb.mono (by omega)),h.hz.below hb (by omega),h.h4.below hb (by omega),hh,h0,h1,h2⟩
end
theorem orleaf_good (a:Option Addr)(L c:Nat)(b:List UInt8)(hL:b.length=L)(hLs:L≤1048576)(hE:decE b=0)(h8:kidsN (decP b)=4)(w:World)(h:Bytes w (.slice a L c) b):Calls Tryz.prog 11 #[.slice a L c] w (ReadL b w):=by
 have hz:Blk 32 (w.alloc (.cells Tryz.zeroCells32 32)) w.heap.size (lfcs zL):=by rw [zcLf];exact Blk.new w _ _
 have hbel:Below w.heap.size w (w.alloc (.cells Tryz.zeroCells32 32)):=(Below.refl _ _).alloc (Nat.le_refl _) _
 have hlt0:=hz.lt
 have hl69:=lfcs_len zL_ok
 have cc:=fun u (hu:Bytes u (.slice a L c) b)=>pdecode_any a L c b hL hLs u hu
 rw [hE] at cc
 obtain ⟨TS,hTS⟩:∃ T,T=kidT (decP b):=⟨_,rfl⟩
 obtain ⟨T0,hT0⟩:∃ T,T=TS[0]?.getD []:=⟨_,rfl⟩
 obtain ⟨T1,hT1⟩:∃ T,T=TS[1]?.getD []:=⟨_,rfl⟩
 obtain ⟨F2,hF2⟩:∃ T,T=TS[2]?.getD []:=⟨_,rfl⟩
 obtain ⟨F3,hF3⟩:∃ T,T=TS[3]?.getD []:=⟨_,rfl⟩
 obtain ⟨n0,hn0⟩:∃ n,n=T0.length:=⟨_,rfl⟩
 obtain ⟨n1,hn1⟩:∃ n,n=T1.length:=⟨_,rfl⟩
 obtain ⟨n2,hn2⟩:∃ n,n=F2.length:=⟨_,rfl⟩
 obtain ⟨n3,hn3⟩:∃ n,n=F3.length:=⟨_,rfl⟩
 obtain ⟨V0,hV0⟩:∃ V,V=numL (last32 T0):=⟨_,rfl⟩
 obtain ⟨V1,hV1⟩:∃ V,V=numL (last32 T1):=⟨_,rfl⟩
 have ct0:∀ (ta:Option Addr) (tc:Nat) (u:World) (hu:Bytes u (.slice ta n0 tc) T0),Calls Tryz.prog 46 #[.slice ta n0 tc] u fun e w'=>e=.returned (.agg (wcs V0).toArray)∧Below u.heap.size u w':=fun ta tc u hu=>by
  rw [hn0] at hu ⊢;rw [hV0];exact wread_any ta tc T0 u hu
 have ct1:∀ (ta:Option Addr) (tc:Nat) (u:World) (hu:Bytes u (.slice ta n1 tc) T1),Calls Tryz.prog 46 #[.slice ta n1 tc] u fun e w'=>e=.returned (.agg (wcs V1).toArray)∧Below u.heap.size u w':=fun ta tc u hu=>by
  rw [hn1] at hu ⊢;rw [hV1];exact wread_any ta tc T1 u hu
 obtain ⟨N0,hN0⟩:∃ N,N=lim V0 0:=⟨_,rfl⟩
 obtain ⟨X,hXe⟩:∃ X:Lf,X=⟨N0,V1,cpy 32 F2,cpy 32 F3⟩:=⟨_,rfl⟩
 have hX:rdL nfR mfR TS=X:=by
  rw [hXe]
  unfold rdL
  dsimp only
  rw [←hT0,←hT1,←hF2,←hF3,hN0,hV0,hV1];rfl
 have hOk:(rdL nfR mfR TS).Ok:=rdL_ok nfR_lt mfR_lt TS
 rw [hX] at hOk
 have hV1k:V1<W256:=by rw [hV1];exact mfR_lt T1
 have hN0k:N0<18446744073709551616:=by rw [hN0];exact lim_lt _ _
 have C:=Lib.hid cc
 have H8:=Lib.hid h8
 have HTS:=Lib.hid hTS
 have HT0:=Lib.hid hT0
 have HT1:=Lib.hid hT1
 have HF2:=Lib.hid hF2
 have HF3:=Lib.hid hF3
 have Hn0:=Lib.hid hn0
 have Hn1:=Lib.hid hn1
 have Hn2:=Lib.hid hn2
 have Hn3:=Lib.hid hn3
 have Ct0:=Lib.hid ct0
 have Ct1:=Lib.hid ct1
 have HX:=Lib.hid hX
 have HXe:=Lib.hid hXe
 have HOk:=Lib.hid hOk
 have HN0:=Lib.hid hN0
 have K0:Hid (Lf.Ok ⟨N0,0,zeroB 32,zeroB 32⟩):=Lib.hid ⟨hN0k,by show 0<W256;unfold W256;omega,rfl,rfl⟩
 have K1:Hid (Lf.Ok ⟨N0,V1,zeroB 32,zeroB 32⟩):=Lib.hid ⟨hN0k,hV1k,rfl,rfl⟩
 have K2:Hid (Lf.Ok ⟨N0,V1,cpy 32 F2,zeroB 32⟩):=Lib.hid ⟨hN0k,hV1k,cpy_len _ _,rfl⟩
 clear cc hE hLs h8 hTS hT0 hT1 hF2 hF3 hn0 hn1 hn2 hn3 hV0 hV1 ct0 ct1 hX hXe hOk hN0 hV1k hN0k
 go_enter Tryz.func11,Tryz.ntmps11
 go_upto_region 5 with (first
  |(go_at_call 45;(with_reducible refine (C.out _ (h.alloc _)).mono ?_);rintro e w1 ⟨it,rfl,b1,hF,hbare,he⟩;have hz1:=hz.kept b1;have hbel1:=Below.then hbel b1;have hs1:=Nat.lt_of_lt_of_le hlt0 b1.size;obtain ⟨l,tv,t,kv,ks⟩:=it;obtain ⟨hkk,_,hkt⟩:=kids_of hbare he;change ks.length=_ at hkk;change ks.map itt=_ at hkt;rw [H8.out] at hkk;obtain ⟨ta,tc,rfl,_,_⟩:=hF.is.inv.1.form;have hrow:=hF.is.inv.2.1;have hkids:=hF.is.inv.2.2;obtain ⟨ka,kc,rfl,_⟩:=hrow.form' 4 hkk;obtain ⟨kb,ko,rfl,hkx⟩:=kid_texts hrow hkids (by omega);rw [hkt,←HTS.out] at hkx;rw [hkk] at hkx;obtain ⟨ta0,tc0,h0t⟩:=hkx 0 (by omega);rw [←HT0.out,←Hn0.out] at h0t;obtain ⟨ta1,tc1,h1t⟩:=hkx 1 (by omega);rw [←HT1.out,←Hn1.out] at h1t;obtain ⟨ta2,tc2,h2t⟩:=hkx 2 (by omega);rw [←HF2.out,←Hn2.out] at h2t;obtain ⟨ta3,tc3,h3t⟩:=hkx 3 (by omega);rw [←HF3.out,←Hn3.out] at h3t;have H0t:=Lib.hid h0t;have H1t:=Lib.hid h1t;have H2t:=Lib.hid h2t;have H3t:=Lib.hid h3t;clear hF hbare he hkk hkt hrow hkids hkx h0t h1t h2t h3t;simp only [icells])
  |((with_reducible show wpList _ _ _ (⟨none,.store _ _ (.tmp 10),_,_,_,_⟩::_) _ _);refine wpList_storeA (o:=⟨none,_,_,_,_,_⟩) (by rfl) 77 (.tmp 4) (.tmp 10) (by rfl) w1.heap.size [.bool l,.slice ta t.length tc,.slice (some ⟨kb,ko,none⟩) 4 kc] (by rfl) (by rfl) aggItem (Blk.new w1 77 [.bool false,.slice none 0 0,.slice none 0 0]) (by rfl) (by rfl) (by intro u hu;simp at hu;rcases hu with rfl|rfl|rfl<;>rfl) (((Below.refl w1.heap.size w1).alloc (Nat.le_refl _) (.cells #[.bool false,.slice none 0 0,.slice none 0 0] 77))) (Nat.le_refl _) ?_;intro w4 h4 b4 _;have hz4:=hz1.kept b4;have hbel4:=Below.then hbel1 b4;have c42:w4.cell? ⟨w1.heap.size,2,none⟩=some (.slice (some ⟨kb,ko,none⟩) 4 kc):=h4.cell 2))
 obtain ⟨w5,hw5⟩:∃ w5,w5=w4.alloc (.cells Tryz.zeroCells32 32):=⟨_,rfl⟩
 have b45:Below w4.heap.size w4 w5:=by rw [hw5];exact (Below.refl _ _).alloc (Nat.le_refl _) _
 have G:RoW w w1 w1.heap.size w4.heap.size [.bool l,.slice ta t.length tc,.slice (some ⟨kb,ko,none⟩) 4 kc] (lfcs zL) w5 :=
  ⟨Below.then hbel4 b45,Below.then b4 b45,hz4.kept b45,h4.kept b45,by rw [hw5,zcLf];exact Blk.new w4 _ _,hs1,Nat.le_refl _,h4.lt⟩
 rw [←hw5]
 obtain ⟨g6,hg6⟩:∃ g,g=w4.heap.size:=⟨_,rfl⟩
 rw [←hg6] at G
 try rw [←hg6]
 have k2:=fun u:Ext w5=>u.cell ((G.h4.cell 2).trans (show _=some (Value.slice (some ⟨kb,ko,none⟩) 4 kc) from rfl))
 have k0t:=fun u:Ext w5=>u.cell (show w5.cell? ⟨kb,ko+1,none⟩=some (.slice ta0 n0 tc0) from (H0t.out w5 G.hk).1)
 have k1t:=fun u:Ext w5=>u.cell (show w5.cell? ⟨kb,ko+3+1,none⟩=some (.slice ta1 n1 tc1) from (H1t.out w5 G.hk).1)
 have R0:Hid (∀ u,Below w5.heap.size w5 u→Calls Tryz.prog 46 #[.slice ta0 n0 tc0] u fun e w'=>e=.returned (.agg (wcs V0).toArray)∧Below u.heap.size u w'):=Lib.hid fun u hu=>Ct0.out ta0 tc0 u (H0t.out u (Below.then G.hk hu)).2
 have R1:Hid (∀ u,Below w5.heap.size w5 u→Calls Tryz.prog 46 #[.slice ta1 n1 tc1] u fun e w'=>e=.returned (.agg (wcs V1).toArray)∧Below u.heap.size u w'):=Lib.hid fun u hu=>Ct1.out ta1 tc1 u (H1t.out u (Below.then G.hk hu)).2
 have x0:=fun u=>idx0w V0 u
 rw [←HN0.out] at x0
 clear hz hbel hlt0 b1 hz1 hbel1 hs1 h4 b4 hz4 hbel4 c42 hw5 b45 hg6 Ct0 Ct1
 refine wp_region_typed w5 13 (by kernel_rfl) (by kernel_rfl) (Below.refl _ _) ?_;simp only [List.take_succ_cons,List.take_zero,List.take_nil]
 iterate 5 (refine wpX_step (by rfl) (fun K hK=>?_);go_simp;first|(refine hK _ ?_;clear hK K)|(apply Exists.intro;refine ⟨fun _=>?_,hK _ ?_⟩;fail;clear hK K))
 (refine wpX_step (by rfl) (fun K hK=>?_);go_simp;first|(refine hK _ ?_;clear hK K)|(apply Exists.intro;refine ⟨fun _=>?_,hK _ ?_⟩;exact R0.out _ (Subtype.property _);clear hK K))
 (refine wpX_step (by rfl) (fun K hK=>?_);go_simp;first|(refine hK _ ?_;clear hK K)|(apply Exists.intro;refine ⟨fun _=>?_,hK _ ?_⟩;fail;clear hK K))
 iterate 5 (refine wpX_step (by rfl) (fun K hK=>?_);go_simp;first|(refine hK _ ?_;clear hK K)|(apply Exists.intro;refine ⟨fun _=>?_,hK _ ?_⟩;fail;clear hK K))
 (refine wpX_step (by rfl) (fun K hK=>?_);go_simp;first|(refine hK _ ?_;clear hK K)|(apply Exists.intro;refine ⟨fun _=>?_,hK _ ?_⟩;exact R1.out _ (Subtype.property _);clear hK K))
 refine wpX_nil ?_
 intro u2 hb2
 change wpList _ _ _ [_,_,_,_] _ _
 have G2:=G.kept hb2
 clear k2 k0t k1t R0 R1 x0 G hb2
 try simp only [Act.put,List.setIfInBounds_toArray,List.set_cons_zero,List.set_cons_succ]
 obtain ⟨y6,hy6⟩:=G2.hh.has 0 (by rw [hl69];omega)
 have hf6:=G2.hh.free 0
 have G3:RoW w w1 w1.heap.size g6 [.bool l,.slice ta t.length tc,.slice (some ⟨kb,ko,none⟩) 4 kc] (lfcs ⟨N0,0,zeroB 32,zeroB 32⟩) (u2.setCell ⟨g6,0,none⟩ (.int .u64 (N0:Int))):=G2.grown (grown_cell 0 _) (by have:=G2.hh.set 0 (u64v N0);rw [lf_setN] at this;exact this)
 have th3:=lf_there K0.out G3.hh
 obtain ⟨u4,hu4⟩:∃ u,u=(u2.setCell ⟨g6,0,none⟩ (.int .u64 (N0:Int))).setCells g6 1 (wcs V1):=⟨_,rfl⟩
 have G4:RoW w w1 w1.heap.size g6 [.bool l,.slice ta t.length tc,.slice (some ⟨kb,ko,none⟩) 4 kc] (lfcs ⟨N0,V1,zeroB 32,zeroB 32⟩) u4:=by
  rw [hu4]
  exact G3.grown (grown_sets (wcs V1) 1 ⟨rfl,rfl,rfl,Nat.le_refl _,fun _ _ _=>rfl⟩) (by have:=G3.hh.sets (wcs V1) 1;rw [lf_setM] at this;exact this)
 have Hu4:=Lib.hid hu4
 obtain ⟨WV,hWV⟩:∃ W,W=wcs V1:=⟨_,rfl⟩
 have hwo:Hid (∀ v∈WV,v.oneCell'=true):=Lib.hid (by rw [hWV];exact wcs_one V1)
 have hwl:Hid (WV.length=4):=Lib.hid (by rw [hWV];exact wcs_len V1)
 rw [←hWV] at Hu4
 rw [←hWV]
 clear hu4 hWV G2 G3
 go_wp2_with ((with_reducible show wpList _ _ _ (⟨none,.store _ _ (.tmp 33),_,_,_,_⟩::_) _ _);refine wpList_store_mid (by rfl) 24 (.tmp 35) (.tmp 33) (by rfl) g6 1 WV.toArray (by rfl) (by rfl) (by rw [List.size_toArray,hwl.out];exact th3) (by rw [List.size_toArray,hwl.out];kernel_rfl) (all_oneCell_toArray hwo.out) ?_;(try rw [List.toList_toArray]);rw [←Hu4.out])
 have s32:=fun off u=>sl32 g6 off u
 have e2:=fun u:Ext u4=>u.cell ((G4.h4.cell 2).trans (show _=some (Value.slice (some ⟨kb,ko,none⟩) 4 kc) from rfl))
 have e2t:=fun u:Ext u4=>u.cell (show u4.cell? ⟨kb,ko+6+1,none⟩=some (.slice ta2 n2 tc2) from (H2t.out u4 G4.hk).1)
 clear hy6 hf6 th3 Hu4 hwo hwl
 refine wp_region_typed u4 7 (by kernel_rfl) (by kernel_rfl) (Below.refl _ _) ?_;simp only [List.take_succ_cons,List.take_zero,List.take_nil]
 iterate 7 (refine wpX_step (by rfl) (fun K hK=>?_);go_simp;first|(refine hK _ ?_;clear hK K)|(apply Exists.intro;refine ⟨fun _=>?_,hK _ ?_⟩;fail;clear hK K))
 refine wpX_nil ?_
 intro u5 hb5
 change wpList _ _ _ [_] _ _
 have F0:=G4.kept hb5
 have bt0:=(H2t.out u5 F0.hk).2
 clear e2 e2t G4 hb5
 try simp only [Act.put,List.setIfInBounds_toArray,List.set_cons_zero,List.set_cons_succ]
 go_wp2_with (refine wpList_copyMin (o:=⟨some 43,_,_,_,_,_⟩) (by rfl) (.tmp 37) (.tmp 42) 25 25 (by rfl) elU8 g6 5 32 32 (by rfl) (.slice ta2 n2 tc2) F2 (by rfl) bt0 (lfcs ⟨N0,V1,zeroB 32,zeroB 32⟩) F0.hh (by rw [lfcs_len K1.out];omega) ?_;intro v0 hh0 b0;have G5:=F0.put b0 hh0;rw [lf_cpS] at G5;clear F0 bt0 hh0 b0)
 have f2:=fun u:Ext v0=>u.cell ((G5.h4.cell 2).trans (show _=some (Value.slice (some ⟨kb,ko,none⟩) 4 kc) from rfl))
 have f3t:=fun u:Ext v0=>u.cell (show v0.cell? ⟨kb,ko+9+1,none⟩=some (.slice ta3 n3 tc3) from (H3t.out v0 G5.hk).1)
 refine wp_region_typed v0 7 (by kernel_rfl) (by kernel_rfl) (Below.refl _ _) ?_;simp only [List.take_succ_cons,List.take_zero,List.take_nil]
 iterate 7 (refine wpX_step (by rfl) (fun K hK=>?_);go_simp;first|(refine hK _ ?_;clear hK K)|(apply Exists.intro;refine ⟨fun _=>?_,hK _ ?_⟩;fail;clear hK K))
 refine wpX_nil ?_
 intro u6 hb6
 change wpList _ _ _ [_] _ _
 have F1:=G5.kept hb6
 have bt1:=(H3t.out u6 F1.hk).2
 clear f2 f3t G5 hb6
 try simp only [Act.put,List.setIfInBounds_toArray,List.set_cons_zero,List.set_cons_succ]
 go_wp2_with (refine wpList_copyMin (o:=⟨some 51,_,_,_,_,_⟩) (by rfl) (.tmp 45) (.tmp 50) 25 25 (by rfl) elU8 g6 37 32 32 (by rfl) (.slice ta3 n3 tc3) F3 (by rfl) bt1 (lfcs ⟨N0,V1,cpy 32 F2,zeroB 32⟩) F1.hh (by rw [lfcs_len K2.out];omega) ?_;intro v1 hh1 b1';have G6:=F1.put b1' hh1;rw [lf_cpC _ _ _ _ (cpy_len _ _),←HXe.out] at G6;clear F1 bt1 hh1 b1')
 have hlH:=lfcs_len HOk.out
 have hoX:=lfcs_one X
 have wr:=fun u=>owleaf_any X HOk.out u
 have c1:=fun u:Ext v1=>run_str (P:=Tryz.prog) (src:=25) (dst:=9) elU8.ht (by kernel_rfl) (by kernel_rfl) (RowOf.below (f:=b8) (size:=1) h (Below.then G6.hb u.bel))
 have Ra:=Lib.hid (Blk.all0 G6.hh)
 obtain ⟨WB,hWB⟩:∃ WB,WB=wL X:=⟨_,rfl⟩
 rw [←hWB] at wr
 have HWB:=Lib.hid hWB
 obtain ⟨XC,hXC⟩:∃ X',X'=lfcs X:=⟨_,rfl⟩
 rw [←hXC] at hlH hoX Ra G6
 simp only [←hXC] at wr
 have HXC:=Lib.hid hXC
 have Wr:=Lib.hid wr
 have HoX:=Lib.hid hoX
 clear hWB hXC wr hoX
 obtain ⟨r,hr⟩:∃ r,r=(WB==b):=⟨_,rfl⟩
 have hr2:(WB != b)=!r:=by rw [hr];rfl
 have Hr:=Lib.hid hr
 cases r with
 | true =>
  simp only [Bool.not_true] at hr2
  have hr1:=hr.symm
  clear hr
  refine wp_region_typed v1 6 (by kernel_rfl) (by kernel_rfl) (Below.refl _ _) ?_;simp only [List.take_succ_cons,List.take_zero,List.take_nil]
  (refine wpX_step (by rfl) (fun K hK=>?_);rw [if_pos (by rfl)];refine ⟨_,fun u=>const_loadm _ (.tmp 6) (by rfl) _ _ (by rfl) aggLf hlH (rangeAt.ext Ra.out u),hK _ ?_⟩;clear hK K;simp only [Act.put,List.setIfInBounds_toArray,List.set_cons_zero,List.set_cons_succ])
  refine wpX_rel 53 (TxB 0 WB) rfl (of_decide_eq_true rfl) (TxB.mono _ _) (fun w2 hw2=>?_) ?_
  ·simp only [relOf,List.filter_nil,forallRel]
   refine ⟨rfl,?_⟩
   go_simp
   refine (Wr.out w2).mono ?_
   rintro e w3 ⟨v,rfl,o3,b3⟩
   exact ⟨v,rfl,⟨o3.1,fun _ _=>Nat.zero_le _⟩,b3⟩
  refine wpX_eq (str WB) (fun w2 hw2=>?_) ?_
  ·change forallRel w2 [(53,_)] _ _
   intro v99 h99
   simp only [forallRel]
   refine ⟨rfl,?_⟩
   have c99:=run_str (P:=Tryz.prog) (src:=25) (dst:=9) elU8.ht (by kernel_rfl) (by kernel_rfl) h99.1
   go_simp
   exact Below.refl _ _
  iterate 3 (refine wpX_step (by rfl) (fun K hK=>?_);go_simp;first|(refine hK _ ?_;clear hK K)|(apply Exists.intro;refine ⟨fun _=>?_,hK _ ?_⟩;fail;clear hK K))
  refine wpX_nil ?_
  intro z3 hz3 v99 h99
  have F7:=G6.kept hz3
  have hzz:=F7.hz
  have hhh:=F7.hh
  clear h99 c1 G6
  change forallRel z3 [] _ _
  simp only [forallRel,List.drop_succ_cons,List.drop_zero,List.drop_nil]
  try simp only [Act.put,List.setIfInBounds_toArray,List.set_cons_zero,List.set_cons_succ]
  go_wp2_with (first
   |(refine wpList_loadA (o:=⟨some 59,_,_,_,_,_⟩) (by rfl) 32 (.tmp 6) (by rfl) g6 (by rfl) aggLf hhh hlH ?_)
   |((with_reducible show wpList _ _ _ (⟨none,.store _ _ (.tmp 59),_,_,_,_⟩::_) _ _);refine wpList_storeA (o:=⟨none,_,_,_,_,_⟩) (by rfl) 32 (.tmp 2) (.tmp 59) (by rfl) w.heap.size XC (by rfl) (by rfl) aggLf hzz hlH hl69 HoX.out F7.hb (Nat.le_refl _) ?_;intro w5' hh5 hbel5 _))
  have heq:wL X=b:=by rw [←HWB.out];exact beq_iff_eq.1 Hr.out.symm
  exact bodyPost_ret (v:=.tuple #[.agg XC.toArray,.int .i64 0]) (results_blk_tmp rfl _ _ w.heap.size aggLf hh5 hlH rfl rfl) rfl ⟨X,0,by rw [HXC.out],HOk.out,rdl_yes heq,hbel5⟩
 | false =>
  simp only [Bool.not_false] at hr2
  have hr1:=hr.symm
  clear hr
  refine wp_region_typed v1 6 (by kernel_rfl) (by kernel_rfl) (Below.refl _ _) ?_;simp only [List.take_succ_cons,List.take_zero,List.take_nil]
  (refine wpX_step (by rfl) (fun K hK=>?_);rw [if_pos (by rfl)];refine ⟨_,fun u=>const_loadm _ (.tmp 6) (by rfl) _ _ (by rfl) aggLf hlH (rangeAt.ext Ra.out u),hK _ ?_⟩;clear hK K;simp only [Act.put,List.setIfInBounds_toArray,List.set_cons_zero,List.set_cons_succ])
  refine wpX_rel 53 (TxB 0 WB) rfl (of_decide_eq_true rfl) (TxB.mono _ _) (fun w2 hw2=>?_) ?_
  ·simp only [relOf,List.filter_nil,forallRel]
   refine ⟨rfl,?_⟩
   go_simp
   refine (Wr.out w2).mono ?_
   rintro e w3 ⟨v,rfl,o3,b3⟩
   exact ⟨v,rfl,⟨o3.1,fun _ _=>Nat.zero_le _⟩,b3⟩
  refine wpX_eq (str WB) (fun w2 hw2=>?_) ?_
  ·change forallRel w2 [(53,_)] _ _
   intro v99 h99
   simp only [forallRel]
   refine ⟨rfl,?_⟩
   have c99:=run_str (P:=Tryz.prog) (src:=25) (dst:=9) elU8.ht (by kernel_rfl) (by kernel_rfl) h99.1
   go_simp
   exact Below.refl _ _
  iterate 3 (refine wpX_step (by rfl) (fun K hK=>?_);go_simp;first|(refine hK _ ?_;clear hK K)|(apply Exists.intro;refine ⟨fun _=>?_,hK _ ?_⟩;fail;clear hK K))
  refine wpX_nil ?_
  intro z3 hz3 v99 h99
  have F7:=G6.kept hz3
  have hzz:=F7.hz
  clear h99 c1 G6
  change forallRel z3 [] _ _
  simp only [forallRel,List.drop_succ_cons,List.drop_zero,List.drop_nil]
  try simp only [Act.put,List.setIfInBounds_toArray,List.set_cons_zero,List.set_cons_succ]
  go_wp2_with (first
   |((with_reducible show wpList _ _ _ (⟨none,.store _ _ (.tmp 58),_,_,_,_⟩::_) _ _);refine wpList_storeA (o:=⟨none,_,_,_,_,_⟩) (by rfl) 32 (.tmp 2) (.tmp 58) (by rfl) w.heap.size (lfcs zL) (by rfl) (by first|rfl|exact congrArg Value.agg zcLf) aggLf hzz hl69 hl69 (lfcs_one _) F7.hb (Nat.le_refl _) ?_;intro w5' hh5 hbel5 _))
  have hne:wL (rdL nfR mfR (kidT (decP b)))≠b:=by
   rw [←HTS.out,HX.out,←HWB.out]
   intro e
   have:=Hr.out
   rw [e,beq_self_eq_true] at this
   cases this
  exact bodyPost_ret (v:=.tuple #[.agg (lfcs zL).toArray,.int .i64 1]) (results_blk_tmp rfl _ _ w.heap.size aggLf hh5 hl69 rfl rfl) rfl ⟨zL,1,rfl,zL_ok,rdl_not (rd:=rdL nfR mfR) (rdL_self nfR_num mfR_num) hne,hbel5⟩
theorem orleaf_any (a:Option Addr)(L c:Nat)(b:List UInt8)(hL:b.length=L)(hLs:L≤1048576)(w:World)(h:Bytes w (.slice a L c) b):Calls Tryz.prog 11 #[.slice a L c] w (ReadL b w):=by
 by_cases hE:decE b=0
 ·by_cases h8:kidsN (decP b)=4
  ·exact orleaf_good a L c b hL hLs hE h8 w h
  ·exact orleaf_bad a L c b hL hLs (.inr ⟨hE,h8⟩) w h
 ·exact orleaf_bad a L c b hL hLs (.inl hE) w h
end Go.Proofs.YtcgpjceopnfahaaGreat
