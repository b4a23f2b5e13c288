/- world.ReadLeaf: bytes that are no leaf (gen_lf4.py printed it). | world.ReadLeaf: four kids; whatever the bytes (gen_lf5.py printed it). | The zero account. -/
import Derived.Test.YtcgpjceopnfahaaGreatWorldChecksK24
import Derived.Test.YtcgpjceopnfahaaGreatWorldChecksK25
import Derived.Test.YtcgpjceopnfahaaGreatWorldChecksK22
import Derived.Test.YtcgpjceopnfahaaGreatWorldChecksK09
import Derived.Deep.Cut
import Derived.Deep.CutBlock
set_option linter.unusedSimpArgs false
set_option linter.unusedVariables false
set_option maxHeartbeats 4000000
set_option maxRecDepth 100000
namespace Go.Proofs.YtcgpjceopnfahaaGreat
open Go.RowKit
theorem zcLf:Tryz.zeroCells32=(lfcs zL).toArray:=by kernel_rfl
theorem kid_list {l:Bool}{tv:Value}{t:List UInt8}{kv:Value}{ks:List Itm}(h:BareI (.mk l tv t kv ks))(hk:ks.length=4):l=true:=by
 cases h with
 | txt=>simp at hk
 | lst=>rfl
def ReadL (b:List UInt8)(w:World)(e:Ending)(w':World):Prop:=∃ H E,e=.returned (.tuple #[.agg (lfcs H).toArray,.int .i64 E])∧H.Ok∧RdL b H E∧Below w.heap.size w w'
theorem rleaf_bad (a:Option Addr)(L c:Nat)(b:List UInt8)(hL:b.length=L)(hLs:L≤1048576)(hbad:decE b≠0∨(decE b=0∧kidsN (decP b)≠4)∨(decE b=0∧kidsN (decP b)=4∧((kidT (decP b))[2]?.getD []).length≠32)∨(decE b=0∧kidsN (decP b)=4∧((kidT (decP b))[2]?.getD []).length=32∧((kidT (decP b))[3]?.getD []).length≠32))(w:World)(h:Bytes w (.slice a L c) b):Calls Tryz.prog 10 #[.slice a L c] w (ReadL b w):=by
 have hform:RdL b zL 1:=by
  refine rdl_form ?_
  rcases hbad with h|h|h|h
  ·exact .inl h
  ·exact .inr (.inl h.2)
  ·exact .inr (.inr (.inl h.2.2))
  ·exact .inr (.inr (.inr h.2.2.2))
 have hpost:∀ u,Below w.heap.size w u→ReadL b w (.returned (.tuple #[.agg (lfcs zL).toArray,.int .i64 1])) u:=fun u hu=>⟨zL,1,rfl,zL_ok,hform,hu⟩
 have hz:Blk 32 (w.alloc (.cells Tryz.zeroCells32 32)) w.heap.size (lfcs zL):=by rw [zcLf];exact Blk.new w _ _
 have hbel:Below w.heap.size w (w.alloc (.cells Tryz.zeroCells32 32)):=(Below.refl _ _).alloc (Nat.le_refl _) _
 have hlt0:=hz.lt
 have hl69:=lfcs_len zL_ok
 have cc:=fun u (hu:Bytes u (.slice a L c) b)=>decode_any a L c b hL hLs u hu
 have Hpost:=Lib.hid hpost
 rcases hbad with hbad|⟨hE,hbad⟩|⟨hE,h8,hbad⟩|⟨hE,h8,h0,hbad⟩
 ·have hE:=decE_01 b hbad
  rw [hE] at cc
  have C:=Lib.hid cc
  clear cc hE hbad hL hLs hpost
  go_enter Tryz.func10,Tryz.ntmps10
  go_wp2_with (first
   |(go_at_call 42;(with_reducible refine (C.out _ (h.alloc _)).mono ?_);rintro e w1 ⟨it,rfl,b1,hF,hbare,he,_⟩;have hz1:=hz.kept b1;have hbel1:=Below.then hbel b1;obtain ⟨l,tv,t,kv,ks⟩:=it;obtain ⟨ta,tc,rfl,_,_⟩:=hF.is.inv.1.form;obtain ⟨ka,kc,rfl,_,_⟩:=hF.is.inv.2.1.form;obtain ⟨kn,hkn⟩:∃ kn,kn=ks.length:=⟨_,rfl⟩;rw [←hkn];clear hF hbare he hkn;simp only [icells])
   |((with_reducible show wpList _ _ _ (⟨none,.store _ _ (.tmp 14),_,_,_,_⟩::_) _ _);refine wpList_storeA (o:=⟨none,_,_,_,_,_⟩) (by rfl) 77 (.tmp 4) (.tmp 14) (by rfl) w1.heap.size [.bool l,.slice ta t.length tc,.slice ka kn kc] (by rfl) (by rfl) aggItem (Blk.new w1 77 [.bool false,.slice none 0 0,.slice none 0 0]) (by rfl) (by rfl) (by intro u hu;simp at hu;rcases hu with rfl|rfl|rfl<;>rfl) (((Below.refl w1.heap.size w1).alloc (Nat.le_refl _) (.cells #[.bool false,.slice none 0 0,.slice none 0 0] 77))) (Nat.le_refl _) ?_;intro w4 h4 b4 _;have hz4:=hz1.kept b4;have hbel4:=Below.then hbel1 b4;have c40:w4.cell? ⟨w1.heap.size,0,none⟩=some (.bool l):=h4.cell 0;have c42:w4.cell? ⟨w1.heap.size,2,none⟩=some (.slice ka kn kc):=h4.cell 2)
   |((with_reducible show wpList _ _ _ (⟨none,.store _ _ (.tmp 47),_,_,_,_⟩::_) _ _);refine wpList_storeA (o:=⟨none,_,_,_,_,_⟩) (by rfl) 32 (.tmp 2) (.tmp 47) (by rfl) w.heap.size (lfcs zL) (by rfl) (by first|rfl|exact congrArg Value.agg zcLf) aggLf hz4 hl69 hl69 (lfcs_one _) hbel4 (Nat.le_refl _) ?_;intro w5 hh5 hbel5 _))
  exact bodyPost_ret (v:=.tuple #[.agg (lfcs zL).toArray,.int .i64 1]) (results_blk_tmp rfl _ _ w.heap.size aggLf hh5 hl69 rfl rfl) rfl (Hpost.out _ hbel5)
 ·rw [hE] at cc
  have C:=Lib.hid cc
  have Hbad:=Lib.hid hbad
  clear cc hE hbad hL hLs hpost
  go_enter Tryz.func10,Tryz.ntmps10
  go_wp2_with (first
   |(go_at_call 42;(with_reducible refine (C.out _ (h.alloc _)).mono ?_);rintro e w1 ⟨it,rfl,b1,hF,hbare,he,_⟩;have hz1:=hz.kept b1;have hbel1:=Below.then hbel b1;obtain ⟨l,tv,t,kv,ks⟩:=it;have hkk:=(kids_of hbare he).1;obtain ⟨ta,tc,rfl,_,_⟩:=hF.is.inv.1.form;obtain ⟨ka,kc,rfl,_,_⟩:=hF.is.inv.2.1.form;obtain ⟨kn,hkn⟩:∃ kn,kn=ks.length:=⟨_,rfl⟩;change ks.length=_ at hkk;rw [←hkn] at hkk;have hne:((kn:Int) != 4)=true:=(by rw [bne_iff_ne];intro e;exact Hbad.out (by omega));rw [←hkn];clear hF hbare he hkk hkn;cases l;simp only [icells])
   |((with_reducible show wpList _ _ _ (⟨none,.store _ _ (.tmp 14),_,_,_,_⟩::_) _ _);refine wpList_storeA (o:=⟨none,_,_,_,_,_⟩) (by rfl) 77 (.tmp 4) (.tmp 14) (by rfl) w1.heap.size [.bool true,.slice ta t.length tc,.slice ka kn kc] (by rfl) (by rfl) aggItem (Blk.new w1 77 [.bool false,.slice none 0 0,.slice none 0 0]) (by rfl) (by rfl) (by intro u hu;simp at hu;rcases hu with rfl|rfl|rfl<;>rfl) (((Below.refl w1.heap.size w1).alloc (Nat.le_refl _) (.cells #[.bool false,.slice none 0 0,.slice none 0 0] 77))) (Nat.le_refl _) ?_;intro w4 h4 b4 _;have hz4:=hz1.kept b4;have hbel4:=Below.then hbel1 b4;have c40:w4.cell? ⟨w1.heap.size,0,none⟩=some (.bool true):=h4.cell 0;have c42:w4.cell? ⟨w1.heap.size,2,none⟩=some (.slice ka kn kc):=h4.cell 2)
   |((with_reducible show wpList _ _ _ (⟨none,.store _ _ (.tmp 14),_,_,_,_⟩::_) _ _);refine wpList_storeA (o:=⟨none,_,_,_,_,_⟩) (by rfl) 77 (.tmp 4) (.tmp 14) (by rfl) w1.heap.size [.bool false,.slice ta t.length tc,.slice ka kn kc] (by rfl) (by rfl) aggItem (Blk.new w1 77 [.bool false,.slice none 0 0,.slice none 0 0]) (by rfl) (by rfl) (by intro u hu;simp at hu;rcases hu with rfl|rfl|rfl<;>rfl) (((Below.refl w1.heap.size w1).alloc (Nat.le_refl _) (.cells #[.bool false,.slice none 0 0,.slice none 0 0] 77))) (Nat.le_refl _) ?_;intro w4 h4 b4 _;have hz4:=hz1.kept b4;have hbel4:=Below.then hbel1 b4;have c40:w4.cell? ⟨w1.heap.size,0,none⟩=some (.bool false):=h4.cell 0;have c42:w4.cell? ⟨w1.heap.size,2,none⟩=some (.slice ka kn kc):=h4.cell 2)
   |((with_reducible show wpList _ _ _ (⟨none,.store _ _ (.tmp 47),_,_,_,_⟩::_) _ _);refine wpList_storeA (o:=⟨none,_,_,_,_,_⟩) (by rfl) 32 (.tmp 2) (.tmp 47) (by rfl) w.heap.size (lfcs zL) (by rfl) (by first|rfl|exact congrArg Value.agg zcLf) aggLf hz4 hl69 hl69 (lfcs_one _) hbel4 (Nat.le_refl _) ?_;intro w5 hh5 hbel5 _))
  all_goals exact bodyPost_ret (v:=.tuple #[.agg (lfcs zL).toArray,.int .i64 1]) (results_blk_tmp rfl _ _ w.heap.size aggLf hh5 hl69 rfl rfl) rfl (Hpost.out _ hbel5)
 ·rw [hE] at cc
  have C:=Lib.hid cc
  obtain ⟨n0,hn0⟩:∃ n,n=((kidT (decP b))[2]?.getD []).length:=⟨_,rfl⟩
  rw [←hn0] at hbad
  have hne:((n0:Int) != 32)=true:=by rw [bne_iff_ne];omega
  have N0:=Lib.hid hn0
  have H8:=Lib.hid h8
  clear cc hE hbad hL hLs hpost hn0 h8
  go_enter Tryz.func10,Tryz.ntmps10
  go_wp2_with (first
   |(go_at_call 42;(with_reducible refine (C.out _ (h.alloc _)).mono ?_);rintro e w1 ⟨it,rfl,b1,hF,hbare,he,_⟩;have hz1:=hz.kept b1;have hbel1:=Below.then hbel b1;obtain ⟨l,tv,t,kv,ks⟩:=it;obtain ⟨hkk,_,hkt⟩:=kids_of hbare he;change ks.length=_ at hkk;change ks.map itt=_ at hkt;rw [H8.out] at hkk;obtain rfl:=kid_list hbare hkk;obtain ⟨ta,tc,rfl,_,_⟩:=hF.is.inv.1.form;have hrow:=hF.is.inv.2.1;have hkids:=hF.is.inv.2.2;obtain ⟨ka,kc,rfl,_⟩:=hrow.form' 4 hkk;obtain ⟨kb,ko,rfl,hkx⟩:=kid_texts hrow hkids (by omega);rw [hkt] at hkx;obtain ⟨ta0,tc0,h0t⟩:=hkx 2 (by omega);rw [←N0.out] at h0t;clear hF hbare he hkk hkt hrow hkids hkx;simp only [icells])
   |((with_reducible show wpList _ _ _ (⟨none,.store _ _ (.tmp 14),_,_,_,_⟩::_) _ _);refine wpList_storeA (o:=⟨none,_,_,_,_,_⟩) (by rfl) 77 (.tmp 4) (.tmp 14) (by rfl) w1.heap.size [.bool true,.slice ta t.length tc,.slice (some ⟨kb,ko,none⟩) 4 kc] (by rfl) (by rfl) aggItem (Blk.new w1 77 [.bool false,.slice none 0 0,.slice none 0 0]) (by rfl) (by rfl) (by intro u hu;simp at hu;rcases hu with rfl|rfl|rfl<;>rfl) (((Below.refl w1.heap.size w1).alloc (Nat.le_refl _) (.cells #[.bool false,.slice none 0 0,.slice none 0 0] 77))) (Nat.le_refl _) ?_;intro w4 h4 b4 _;have hz4:=hz1.kept b4;have hbel4:=Below.then hbel1 b4;have c40:w4.cell? ⟨w1.heap.size,0,none⟩=some (.bool true):=h4.cell 0;have c42:w4.cell? ⟨w1.heap.size,2,none⟩=some (.slice (some ⟨kb,ko,none⟩) 4 kc):=h4.cell 2;have q0:w4.cell? ⟨kb,ko+6+1,none⟩=some (.slice ta0 n0 tc0):=(h0t w4 b4).1)
   |((with_reducible show wpList _ _ _ (⟨none,.store _ _ (.tmp 47),_,_,_,_⟩::_) _ _);refine wpList_storeA (o:=⟨none,_,_,_,_,_⟩) (by rfl) 32 (.tmp 2) (.tmp 47) (by rfl) w.heap.size (lfcs zL) (by rfl) (by first|rfl|exact congrArg Value.agg zcLf) aggLf hz4 hl69 hl69 (lfcs_one _) hbel4 (Nat.le_refl _) ?_;intro w5 hh5 hbel5 _))
  exact bodyPost_ret (v:=.tuple #[.agg (lfcs zL).toArray,.int .i64 1]) (results_blk_tmp rfl _ _ w.heap.size aggLf hh5 hl69 rfl rfl) rfl (Hpost.out _ hbel5)
 ·rw [hE] at cc
  have C:=Lib.hid cc
  obtain ⟨n0,hn0⟩:∃ n,n=((kidT (decP b))[2]?.getD []).length:=⟨_,rfl⟩
  rw [←hn0] at h0
  obtain ⟨n1,hn1⟩:∃ n,n=((kidT (decP b))[3]?.getD []).length:=⟨_,rfl⟩
  rw [←hn1] at hbad
  have hne0:((n0:Int) != 32)=false:=by rw [h0];rfl
  have hne1:((n1:Int) != 32)=true:=by rw [bne_iff_ne];omega
  have N1:=Lib.hid hn1
  have N0:=Lib.hid hn0
  have H8:=Lib.hid h8
  clear cc hE hbad hL hLs hpost hn0 h8 hn1 h0
  go_enter Tryz.func10,Tryz.ntmps10
  go_wp2_with (first
   |(go_at_call 42;(with_reducible refine (C.out _ (h.alloc _)).mono ?_);rintro e w1 ⟨it,rfl,b1,hF,hbare,he,_⟩;have hz1:=hz.kept b1;have hbel1:=Below.then hbel b1;obtain ⟨l,tv,t,kv,ks⟩:=it;obtain ⟨hkk,_,hkt⟩:=kids_of hbare he;change ks.length=_ at hkk;change ks.map itt=_ at hkt;rw [H8.out] at hkk;obtain rfl:=kid_list hbare hkk;obtain ⟨ta,tc,rfl,_,_⟩:=hF.is.inv.1.form;have hrow:=hF.is.inv.2.1;have hkids:=hF.is.inv.2.2;obtain ⟨ka,kc,rfl,_⟩:=hrow.form' 4 hkk;obtain ⟨kb,ko,rfl,hkx⟩:=kid_texts hrow hkids (by omega);rw [hkt] at hkx;obtain ⟨ta0,tc0,h0t⟩:=hkx 2 (by omega);rw [←N0.out] at h0t;obtain ⟨ta1,tc1,h1t⟩:=hkx 3 (by omega);rw [←N1.out] at h1t;clear hF hbare he hkk hkt hrow hkids hkx;simp only [icells])
   |((with_reducible show wpList _ _ _ (⟨none,.store _ _ (.tmp 14),_,_,_,_⟩::_) _ _);refine wpList_storeA (o:=⟨none,_,_,_,_,_⟩) (by rfl) 77 (.tmp 4) (.tmp 14) (by rfl) w1.heap.size [.bool true,.slice ta t.length tc,.slice (some ⟨kb,ko,none⟩) 4 kc] (by rfl) (by rfl) aggItem (Blk.new w1 77 [.bool false,.slice none 0 0,.slice none 0 0]) (by rfl) (by rfl) (by intro u hu;simp at hu;rcases hu with rfl|rfl|rfl<;>rfl) (((Below.refl w1.heap.size w1).alloc (Nat.le_refl _) (.cells #[.bool false,.slice none 0 0,.slice none 0 0] 77))) (Nat.le_refl _) ?_;intro w4 h4 b4 _;have hz4:=hz1.kept b4;have hbel4:=Below.then hbel1 b4;have c40:w4.cell? ⟨w1.heap.size,0,none⟩=some (.bool true):=h4.cell 0;have c42:w4.cell? ⟨w1.heap.size,2,none⟩=some (.slice (some ⟨kb,ko,none⟩) 4 kc):=h4.cell 2;have q0:w4.cell? ⟨kb,ko+6+1,none⟩=some (.slice ta0 n0 tc0):=(h0t w4 b4).1;have q1:w4.cell? ⟨kb,ko+9+1,none⟩=some (.slice ta1 n1 tc1):=(h1t w4 b4).1)
   |((with_reducible show wpList _ _ _ (⟨none,.store _ _ (.tmp 47),_,_,_,_⟩::_) _ _);refine wpList_storeA (o:=⟨none,_,_,_,_,_⟩) (by rfl) 32 (.tmp 2) (.tmp 47) (by rfl) w.heap.size (lfcs zL) (by rfl) (by first|rfl|exact congrArg Value.agg zcLf) aggLf hz4 hl69 hl69 (lfcs_one _) hbel4 (Nat.le_refl _) ?_;intro w5 hh5 hbel5 _))
  exact bodyPost_ret (v:=.tuple #[.agg (lfcs zL).toArray,.int .i64 1]) (results_blk_tmp rfl _ _ w.heap.size aggLf hh5 hl69 rfl rfl) rfl (Hpost.out _ hbel5)
theorem bytes_rangeL {w:World}{a:Option Addr}{n c:Nat}{l:List UInt8}(h:Bytes w (.slice a n c) l)(hn:0<n):∃ b off,a=some ⟨b,off,none⟩∧∀ u,Below w.heap.size w u→u.rangeAt b off (by8 l):=by
 obtain ⟨h0,a,c,hv,h1,h2,h3⟩:=h
 simp only [Value.slice.injEq] at hv
 obtain ⟨rfl,hl,rfl⟩:=hv
 rcases h3 with ⟨_,h4,_⟩|⟨b,off,s,rfl,hs,h3⟩
 ·omega
 ·obtain rfl:s=none:=hs.resolve_right (by omega)
  refine ⟨b,off,rfl,fun u hu j v hv=>?_⟩
  have hc:=h3 j v (by rw [flat_b8];exact hv)
  exact (hu.cell (World.block_lt_of_cell? w _ hc)).trans hc
theorem aggHashL:Agg Tryz.prog 30 32:=⟨_,Tryz.underlying30,rfl,by kernel_rfl⟩
def PtL (B:Nat):Ty:=fun v w=>∃ g,v=.pointer (some ⟨g,0,none⟩)∧B≤g∧Blk 32 w g (lfcs zL)
theorem PtL.mono (B:Nat):Mono (PtL B):=fun _ _ _ ⟨g,h1,h2,h3⟩ hb=>⟨g,h1,h2,h3.kept hb⟩
theorem built_lf {l:Lf}(k:l.Ok):Tryz.prog.built 32 [(0,.int .u64 (l.n:Int)),(1,.agg (wcs l.m).toArray),(2,.agg (by8 l.s).toArray),(3,.agg (by8 l.c).toArray)]=some (lfcs l).toArray:=by
 obtain ⟨n,m,s,c⟩:=l
 have h1:s.length=32:=k.s
 have h2:c.length=32:=k.c
 clear k
 match s,h1 with
 | [a0,a1,a2,a3,a4,a5,a6,a7,a8,a9,a10,a11,a12,a13,a14,a15,a16,a17,a18,a19,a20,a21,a22,a23,a24,a25,a26,a27,a28,a29,a30,a31],_ =>
  match c,h2 with
  | [b0,b1,b2,b3,b4,b5,b6,b7,b8,b9,b10,b11,b12,b13,b14,b15,b16,b17,b18,b19,b20,b21,b22,b23,b24,b25,b26,b27,b28,b29,b30,b31],_=>show _=_;kernel_rfl
theorem rleaf_good (a:Option Addr)(L c:Nat)(b:List UInt8)(hL:b.length=L)(hLs:L≤1048576)(hE:decE b=0)(h8:kidsN (decP b)=4)(h0:((kidT (decP b))[2]?.getD []).length=32)(h1:((kidT (decP b))[3]?.getD []).length=32)(w:World)(h:Bytes w (.slice a L c) b):Calls Tryz.prog 10 #[.slice a L c] w (ReadL b w):=by
 have hz:Blk 32 (w.alloc (.cells Tryz.zeroCells32 32)) w.heap.size (lfcs zL):=by rw [zcLf];exact Blk.new w _ _
 have hbel:Below w.heap.size w (w.alloc (.cells Tryz.zeroCells32 32)):=(Below.refl _ _).alloc (Nat.le_refl _) _
 have hlt0:=hz.lt
 have hl69:=lfcs_len zL_ok
 have cc:=fun u (hu:Bytes u (.slice a L c) b)=>decode_any a L c b hL hLs u hu
 rw [hE] at cc
 obtain ⟨TS,hTS⟩:∃ T,T=kidT (decP b):=⟨_,rfl⟩
 rw [←hTS] at h0 h1
 obtain ⟨T0,hT0⟩:∃ T,T=TS[0]?.getD []:=⟨_,rfl⟩
 obtain ⟨T1,hT1⟩:∃ T,T=TS[1]?.getD []:=⟨_,rfl⟩
 obtain ⟨F2,hF2⟩:∃ T,T=TS[2]?.getD []:=⟨_,rfl⟩
 obtain ⟨F3,hF3⟩:∃ T,T=TS[3]?.getD []:=⟨_,rfl⟩
 obtain ⟨n0,hn0⟩:∃ n,n=T0.length:=⟨_,rfl⟩
 obtain ⟨n1,hn1⟩:∃ n,n=T1.length:=⟨_,rfl⟩
 rw [←hF2] at h0
 rw [←hF3] at h1
 obtain ⟨V0,hV0⟩:∃ V,V=numV T0:=⟨_,rfl⟩
 obtain ⟨E0,hE0⟩:∃ E,E=numE T0:=⟨_,rfl⟩
 obtain ⟨V1,hV1⟩:∃ V,V=numV T1:=⟨_,rfl⟩
 obtain ⟨E1,hE1⟩:∃ E,E=numE T1:=⟨_,rfl⟩
 have ct0:=fun (ta:Option Addr) (tc:Nat) (u:World) (hu:Bytes u (.slice ta n0 tc) T0)=>tonum_any ta tc T0 u (by rw [←hn0];exact hu)
 have ct1:=fun (ta:Option Addr) (tc:Nat) (u:World) (hu:Bytes u (.slice ta n1 tc) T1)=>tonum_any ta tc T1 u (by rw [←hn1];exact hu)
 rw [←hn0,←hV0,←hE0] at ct0
 rw [←hn1,←hV1,←hE1] at ct1
 obtain ⟨N0,hN0⟩:∃ N,N=lim V0 0:=⟨_,rfl⟩
 have hX:rdL nfP numV TS=⟨N0,V1,F2,F3⟩:=by
  unfold rdL
  dsimp only
  rw [←hT0,←hT1,←hF2,←hF3,cpy_full h0,cpy_full h1,←hV1,hN0,hV0];rfl
 have hOk:(rdL nfP numV TS).Ok:=rdL_ok nfP_lt mfP_lt TS
 rw [hX] at hOk
 have C:=Lib.hid cc
 have H8:=Lib.hid h8
 have HTS:=Lib.hid hTS
 have H0:=Lib.hid h0
 have H1:=Lib.hid h1
 have HT0:=Lib.hid hT0
 have HT1:=Lib.hid hT1
 have HF2:=Lib.hid hF2
 have HF3:=Lib.hid hF3
 have Hn0:=Lib.hid hn0
 have Hn1:=Lib.hid hn1
 have Ct0:=Lib.hid ct0
 have Ct1:=Lib.hid ct1
 have HX:=Lib.hid hX
 have HOk:=Lib.hid hOk
 have HN0:=Lib.hid hN0
 clear cc hE hLs h8 hTS h0 h1 hT0 hT1 hF2 hF3 hn0 hn1 hV0 hE0 hV1 hE1 ct0 ct1 hX hOk hN0
 go_enter Tryz.func10,Tryz.ntmps10
 go_upto_region 6 with (first
  |(go_at_call 42;(with_reducible refine (C.out _ (h.alloc _)).mono ?_);rintro e w1 ⟨it,rfl,b1,hF,hbare,he,_⟩;have hz1:=hz.kept b1;have hbel1:=Below.then hbel b1;have hs1:=Nat.lt_of_lt_of_le hlt0 b1.size;obtain ⟨l,tv,t,kv,ks⟩:=it;obtain ⟨hkk,_,hkt⟩:=kids_of hbare he;change ks.length=_ at hkk;change ks.map itt=_ at hkt;rw [H8.out] at hkk;obtain rfl:=kid_list hbare hkk;obtain ⟨ta,tc,rfl,_,_⟩:=hF.is.inv.1.form;have hrow:=hF.is.inv.2.1;have hkids:=hF.is.inv.2.2;obtain ⟨ka,kc,rfl,_⟩:=hrow.form' 4 hkk;obtain ⟨kb,ko,rfl,hkx⟩:=kid_texts hrow hkids (by omega);rw [hkt,←HTS.out] at hkx;rw [hkk] at hkx;obtain ⟨ta0,tc0,h0t⟩:=hkx 0 (by omega);rw [←HT0.out,←Hn0.out] at h0t;obtain ⟨ta1,tc1,h1t⟩:=hkx 1 (by omega);rw [←HT1.out,←Hn1.out] at h1t;obtain ⟨ta2,tc2,h2t⟩:=hkx 2 (by omega);rw [←HF2.out,H0.out] at h2t;obtain ⟨ta3,tc3,h3t⟩:=hkx 3 (by omega);rw [←HF3.out,H1.out] at h3t;have H0t:=Lib.hid h0t;have H1t:=Lib.hid h1t;have H2t:=Lib.hid h2t;have H3t:=Lib.hid h3t;clear hF hbare he hkk hkt hrow hkids hkx h0t h1t h2t h3t;simp only [icells])
  |((with_reducible show wpList _ _ _ (⟨none,.store _ _ (.tmp 14),_,_,_,_⟩::_) _ _);refine wpList_storeA (o:=⟨none,_,_,_,_,_⟩) (by rfl) 77 (.tmp 4) (.tmp 14) (by rfl) w1.heap.size [.bool true,.slice ta t.length tc,.slice (some ⟨kb,ko,none⟩) 4 kc] (by rfl) (by rfl) aggItem (Blk.new w1 77 [.bool false,.slice none 0 0,.slice none 0 0]) (by rfl) (by rfl) (by intro u hu;simp at hu;rcases hu with rfl|rfl|rfl<;>rfl) (((Below.refl w1.heap.size w1).alloc (Nat.le_refl _) (.cells #[.bool false,.slice none 0 0,.slice none 0 0] 77))) (Nat.le_refl _) ?_;intro w4 h4 b4 _;have hz4:=hz1.kept b4;have hbel4:=Below.then hbel1 b4;have c40:w4.cell? ⟨w1.heap.size,0,none⟩=some (.bool true):=h4.cell 0;have c42:w4.cell? ⟨w1.heap.size,2,none⟩=some (.slice (some ⟨kb,ko,none⟩) 4 kc):=h4.cell 2;have q0:w4.cell? ⟨kb,ko+1,none⟩=some (.slice ta0 n0 tc0):=(H0t.out w4 b4).1;have q2:w4.cell? ⟨kb,ko+6+1,none⟩=some (.slice ta2 32 tc2):=(H2t.out w4 b4).1;have q3:w4.cell? ⟨kb,ko+9+1,none⟩=some (.slice ta3 32 tc3):=(H3t.out w4 b4).1)
  |(go_at_call 43;(with_reducible refine (Ct0.out ta0 tc0 _ (H0t.out w4 b4).2).mono ?_);rintro e w5 ⟨rfl,b5⟩;unfold wv;have n6:=Blk.new w5 24 [.int .u64 0,.int .u64 0,.int .u64 0,.int .u64 0])
  |((with_reducible show wpList _ _ _ (⟨none,.store _ _ (.tmp 55),_,_,_,_⟩::_) _ _);refine wpList_storeA (o:=⟨none,_,_,_,_,_⟩) (by rfl) 24 (.tmp 6) (.tmp 55) (by rfl) w5.heap.size (wcs V0) (by rfl) (by rfl) aggWord n6 (wcs_len _) (by rfl) (wcs_one _) ((Below.refl w5.heap.size w5).alloc (Nat.le_refl _) _) (Nat.le_refl _) ?_;intro w6 z6 b6 _;have b56:=Below.then b5 b6;have b16:=Below.then b4 b56;have h46:=h4.kept b56;have hz6:=hz4.kept b56;have hbel6:=Below.then hbel4 b56;have d42:w6.cell? ⟨w1.heap.size,2,none⟩=some (.slice (some ⟨kb,ko,none⟩) 4 kc):=h46.cell 2;have q1:w6.cell? ⟨kb,ko+3+1,none⟩=some (.slice ta1 n1 tc1):=(H1t.out w6 b16).1)
  |(go_at_call 43;(with_reducible refine (Ct1.out ta1 tc1 _ (H1t.out w6 b16).2).mono ?_);rintro e w7 ⟨rfl,b7⟩;unfold wv;have n8:=Blk.new w7 24 [.int .u64 0,.int .u64 0,.int .u64 0,.int .u64 0])
  |((with_reducible show wpList _ _ _ (⟨none,.store _ _ (.tmp 64),_,_,_,_⟩::_) _ _);refine wpList_storeA (o:=⟨none,_,_,_,_,_⟩) (by rfl) 24 (.tmp 8) (.tmp 64) (by rfl) w7.heap.size (wcs V1) (by rfl) (by rfl) aggWord n8 (wcs_len _) (by rfl) (wcs_one _) ((Below.refl w7.heap.size w7).alloc (Nat.le_refl _) _) (Nat.le_refl _) ?_;intro w8 z8 b8 _;have b78:=Below.then b7 b8;have b18:=Below.then b16 b78;have h48:=h46.kept b78;have hz8:=hz6.kept b78;have hbel8:=Below.then hbel6 b78;have z68:=z6.kept b78))
 have k2:=fun u:Ext w8=>u.cell ((h48.cell 2).trans (show _=some (Value.slice (some ⟨kb,ko,none⟩) 4 kc) from rfl))
 obtain ⟨b2',o2,rfl,R2⟩:=bytes_rangeL (H2t.out w8 b18).2 (by omega)
 obtain ⟨b3',o3,rfl,R3⟩:=bytes_rangeL (H3t.out w8 b18).2 (by omega)
 have k2t:=fun u:Ext w8=>u.cell (show w8.cell? ⟨kb,ko+6+1,none⟩=some (.slice (some ⟨b2',o2,none⟩) 32 tc2) from (H2t.out w8 b18).1)
 have k3t:=fun u:Ext w8=>u.cell (show w8.cell? ⟨kb,ko+9+1,none⟩=some (.slice (some ⟨b3',o3,none⟩) 32 tc3) from (H3t.out w8 b18).1)
 have m0:∀ u:Ext w8,u.val.cell? ⟨w5.heap.size,0,none⟩=some (.int .u64 (N0:Int)):=fun u=>u.cell ((z68.cell 0).trans (show _=some (Value.int .u64 (N0:Int)) by rw [HN0.out];rfl))
 have hs32:∀ b o c x,(Instr.arrayAt 30 (.slice (some ⟨b,o,none⟩) 32 c)).run Tryz.prog x=.ok (.pointer (some ⟨b,o,none⟩)) x:=fun b o c x=>run_arrayAt (P:=Tryz.prog) (t:=30) (e:=5) (n:=32) (by kernel_rfl) _ 32 c (Nat.le_refl _) x
 have S2:=Lib.hid (R2 w8 (Below.refl _ _))
 have S3:=Lib.hid (R3 w8 (Below.refl _ _))
 have S8:=Lib.hid z8.all0
 have L2:Hid ((by8 F2).length=32):=Lib.hid (by rw [by8_len];exact H0.out)
 have L3:Hid ((by8 F3).length=32):=Lib.hid (by rw [by8_len];exact H1.out)
 have hw18:=b18.size
 clear R2 R3 c40 c42 q0 q2 q3 d42 q1 hz hz1 hz4 hz6 hbel1 hbel4 hbel6 b4 b5 b6 b7 b8 b56 b16 b78 h4 h46 n6 n8 z6
 refine wp_region_typed w8 19 (by kernel_rfl) (by kernel_rfl) (Below.refl _ _) ?_;simp only [List.take_succ_cons,List.take_zero,List.take_nil]
 iterate 2 (refine wpX_step (by rfl) (fun K hK=>?_);go_simp;first|(refine hK _ ?_;clear hK K)|(apply Exists.intro;refine ⟨fun _=>?_,hK _ ?_⟩;fail;clear hK K))
 (refine wpX_step (by rfl) (fun K hK=>?_);rw [if_pos (by rfl)];refine ⟨_,fun u=>const_loadm _ (.tmp 8) (by rfl) _ _ (by rfl) aggWord (wcs_len V1) (rangeAt.ext S8.out u),hK _ ?_⟩;clear hK K;simp only [Act.put,List.setIfInBounds_toArray,List.set_cons_zero,List.set_cons_succ])
 iterate 6 (refine wpX_step (by rfl) (fun K hK=>?_);go_simp;first|(refine hK _ ?_;clear hK K)|(apply Exists.intro;refine ⟨fun _=>?_,hK _ ?_⟩;fail;clear hK K))
 (refine wpX_step (by rfl) (fun K hK=>?_);rw [if_pos (by rfl)];refine ⟨_,fun u=>const_loadm _ (.tmp 74) (by rfl) _ _ (by rfl) aggHashL L2.out (rangeAt.ext S2.out u),hK _ ?_⟩;clear hK K;simp only [Act.put,List.setIfInBounds_toArray,List.set_cons_zero,List.set_cons_succ])
 iterate 6 (refine wpX_step (by rfl) (fun K hK=>?_);go_simp;first|(refine hK _ ?_;clear hK K)|(apply Exists.intro;refine ⟨fun _=>?_,hK _ ?_⟩;fail;clear hK K))
 (refine wpX_step (by rfl) (fun K hK=>?_);rw [if_pos (by rfl)];refine ⟨_,fun u=>const_loadm _ (.tmp 81) (by rfl) _ _ (by rfl) aggHashL L3.out (rangeAt.ext S3.out u),hK _ ?_⟩;clear hK K;simp only [Act.put,List.setIfInBounds_toArray,List.set_cons_zero,List.set_cons_succ])
 refine wpX_eq (.agg (lfcs ⟨N0,V1,F2,F3⟩).toArray) (fun w2 hw2=>?_) ?_
 ·simp only [relOf,List.filter_nil,forallRel]
  refine ⟨rfl,?_⟩
  exact good_build (o:=⟨some 83,_,_,_,_,_⟩) 32 [(0,.tmp 67),(1,.tmp 68),(2,.tmp 75),(3,.tmp 82)] (by rfl) _ (by rfl) _ (built_lf HOk.out) rfl
 refine wpX_rel 10 (PtL w8.heap.size) rfl (of_decide_eq_true rfl) (PtL.mono _) (fun w2 hw2=>?_) ?_
 ·simp only [relOf,List.filter_nil,List.filter_cons,forallRel]
  try simp only [forallRel]
  refine ⟨rfl,?_⟩
  go_simp
  exact ⟨(Below.refl _ _).alloc (Nat.le_refl _) _,w2.heap.size,rfl,hw2.size,by first|exact Blk.new w2 _ _|(rw [zcLf];exact Blk.new w2 _ _)⟩
 refine wpX_nil ?_
 intro u2 hb2 v10 h10
 change wpList _ _ _ [_] _ _
 obtain ⟨g10,rfl,hB10,z10⟩:=h10
 have hzu:=hz8.kept hb2
 have hbu:=Below.then hbel8 hb2
 have hku:=Below.then b18 hb2
 clear k2 k2t k3t m0 hs32 hz8 z8 z68 h48 hbel8 b18 hb2
 simp only [Act.put,List.setIfInBounds_toArray,List.set_cons_zero,List.set_cons_succ]
 obtain ⟨X,hX⟩:∃ X:Lf,X=⟨N0,V1,F2,F3⟩:=⟨_,rfl⟩
 have hOk:X.Ok:=by rw [hX];exact HOk.out
 have hRd:rdL nfP numV TS=X:=by rw [hX];exact HX.out
 rw [←hX]
 have hlX:=lfcs_len hOk
 have hoX:=lfcs_one X
 have cw:=fun u=>wleaf_any X hOk u
 obtain ⟨WB,hWB⟩:∃ W,W=wL X:=⟨_,rfl⟩
 rw [←hWB] at cw
 obtain ⟨XC,hXC⟩:∃ X',X'=lfcs X:=⟨_,rfl⟩
 rw [←hXC] at hlX hoX
 simp only [←hXC] at cw
 rw [←hXC]
 have Cw:=Lib.hid cw
 have HlX:=Lib.hid hlX
 have HoX:=Lib.hid hoX
 have HXC:=Lib.hid hXC
 have HWB:=Lib.hid hWB
 have HRd:=Lib.hid hRd
 have HOk2:=Lib.hid hOk
 clear hX hOk hRd hlX hoX cw hWB hXC
 obtain ⟨q,hq⟩:∃ q,q=(WB==b):=⟨_,rfl⟩
 have Hq:=Lib.hid hq
 have hg1:w1.heap.size≤g10:=Nat.le_trans hw18 hB10
 have hgz:w.heap.size<g10:=Nat.lt_of_lt_of_le hs1 hg1
 clear hq
 cases q
 ·go_wp2_with (first
   |((with_reducible show wpList _ _ _ (⟨none,.store _ _ (.tmp 83),_,_,_,_⟩::_) _ _);refine wpList_storeA (o:=⟨none,_,_,_,_,_⟩) (by rfl) 32 (.tmp 10) (.tmp 83) (by rfl) g10 XC (by rfl) (by rfl) aggLf z10 HlX.out hl69 HoX.out (Below.refl _ _) (Nat.le_refl _) ?_;intro w4' z4 b4' g4';have bz:=hbu.grown g4' hbu.size (fun j hj=>by cases hj;omega);have hz4:=hzu.grown g4' (by simp;omega))
   |((with_reducible show wpList _ _ _ (⟨some 84,_,_,_,_,_⟩::_) _ _);refine wpList_loadA (o:=⟨some 84,_,_,_,_,_⟩) (by rfl) 32 (.tmp 10) (by rfl) g10 (by rfl) aggLf z4 HlX.out ?_)
   |(go_at_call 12;(with_reducible refine (Cw.out _).mono ?_);rintro e w5' ⟨v5,rfl,o5,b5⟩;obtain ⟨a5,c5,rfl,_⟩:=o5.1.form;have bz5:=Below.then bz b5;have hz5:=hz4.kept b5;have z45:=z4.kept b5;have eqq:=bequal_any a5 a WB.length c5 L c WB b w5' o5.1 (h.below bz5);rw [←Hq.out] at eqq;have Eqq:=Lib.hid eqq;clear eqq)
   |(go_at_call 44;refine Eqq.out.mono ?_;rintro e w6' ⟨rfl,rfl⟩)
   |((with_reducible show wpList _ _ _ (⟨none,.store _ _ (.tmp 89),_,_,_,_⟩::_) _ _);refine wpList_storeA (o:=⟨none,_,_,_,_,_⟩) (by rfl) 32 (.tmp 2) (.tmp 89) (by rfl) w.heap.size (lfcs zL) (by rfl) (by first|rfl|exact congrArg Value.agg zcLf) aggLf hz5 hl69 hl69 (lfcs_one _) bz5 (Nat.le_refl _) ?_;intro w7' z7 bz7 _))
  have hne:wL (rdL nfP numV (kidT (decP b)))≠b:=by
   rw [←HTS.out,HRd.out,←HWB.out]
   intro e
   have:=Hq.out
   rw [e,beq_self_eq_true] at this
   cases this
  exact bodyPost_ret (v:=.tuple #[.agg (lfcs zL).toArray,.int .i64 1]) (results_blk_tmp rfl _ _ w.heap.size aggLf z7 hl69 rfl rfl) rfl ⟨zL,1,rfl,zL_ok,rdl_not (rd:=rdL nfP numV) (rdL_self nfP_num mfP_num) hne,bz7⟩
 ·have heq:wL X=b:=by
   rw [←HWB.out]
   exact beq_iff_eq.1 Hq.out.symm
  have Heq:=Lib.hid heq
  clear heq
  go_wp2_with (first
   |((with_reducible show wpList _ _ _ (⟨none,.store _ _ (.tmp 83),_,_,_,_⟩::_) _ _);refine wpList_storeA (o:=⟨none,_,_,_,_,_⟩) (by rfl) 32 (.tmp 10) (.tmp 83) (by rfl) g10 XC (by rfl) (by rfl) aggLf z10 HlX.out hl69 HoX.out (Below.refl _ _) (Nat.le_refl _) ?_;intro w4' z4 b4' g4';have bz:=hbu.grown g4' hbu.size (fun j hj=>by cases hj;omega);have hz4:=hzu.grown g4' (by simp;omega))
   |((with_reducible show wpList _ _ _ (⟨some 84,_,_,_,_,_⟩::_) _ _);refine wpList_loadA (o:=⟨some 84,_,_,_,_,_⟩) (by rfl) 32 (.tmp 10) (by rfl) g10 (by rfl) aggLf z4 HlX.out ?_)
   |(go_at_call 12;(with_reducible refine (Cw.out _).mono ?_);rintro e w5' ⟨v5,rfl,o5,b5⟩;obtain ⟨a5,c5,rfl,_⟩:=o5.1.form;have bz5:=Below.then bz b5;have hz5:=hz4.kept b5;have z45:=z4.kept b5;have eqq:=bequal_any a5 a WB.length c5 L c WB b w5' o5.1 (h.below bz5);rw [←Hq.out] at eqq;have Eqq:=Lib.hid eqq;clear eqq)
   |(go_at_call 44;refine Eqq.out.mono ?_;rintro e w6' ⟨rfl,rfl⟩)
   |((with_reducible show wpList _ _ _ (⟨some 90,_,_,_,_,_⟩::_) _ _);refine wpList_loadA (o:=⟨some 90,_,_,_,_,_⟩) (by rfl) 32 (.tmp 10) (by rfl) g10 (by rfl) aggLf z45 HlX.out ?_)
   |((with_reducible show wpList _ _ _ (⟨none,.store _ _ (.tmp 90),_,_,_,_⟩::_) _ _);refine wpList_storeA (o:=⟨none,_,_,_,_,_⟩) (by rfl) 32 (.tmp 2) (.tmp 90) (by rfl) w.heap.size XC (by rfl) (by rfl) aggLf hz5 HlX.out hl69 HoX.out bz5 (Nat.le_refl _) ?_;intro w7' z7 bz7 g7))
  exact bodyPost_ret (v:=.tuple #[.agg XC.toArray,.int .i64 0]) (results_blk_tmp rfl _ _ w.heap.size aggLf z7 HlX.out rfl rfl) rfl ⟨X,0,by rw [HXC.out],HOk2.out,rdl_yes Heq.out,bz7⟩
theorem rleaf_any (a:Option Addr)(L c:Nat)(b:List UInt8)(hL:b.length=L)(hLs:L≤1048576)(w:World)(h:Bytes w (.slice a L c) b):Calls Tryz.prog 10 #[.slice a L c] w (ReadL b w):=by
 by_cases hE:decE b=0
 ·by_cases h8:kidsN (decP b)=4
  ·by_cases h0:((kidT (decP b))[2]?.getD []).length=32
   ·by_cases h1:((kidT (decP b))[3]?.getD []).length=32
    ·exact rleaf_good a L c b hL hLs hE h8 h0 h1 w h
    ·exact rleaf_bad a L c b hL hLs (.inr (.inr (.inr ⟨hE,h8,h0,h1⟩))) w h
   ·exact rleaf_bad a L c b hL hLs (.inr (.inr (.inl ⟨hE,h8,h0⟩))) w h
  ·exact rleaf_bad a L c b hL hLs (.inr (.inl ⟨hE,h8⟩)) w h
 ·exact rleaf_bad a L c b hL hLs (.inl hE) w h
def z7:List Value:=[.int .u64 0,.int .u64 0,.int .u64 0,.int .u64 0,.int .u64 0,.slice none 0 0,.slice none 0 0]
def zA:Acc:=⟨0,0,.slice none 0 0,[],.slice none 0 0,[]⟩
theorem zA_in (w:World):zA.In w:=⟨RowOf.nil b8 1 w,RowOf.nil spc 8 w⟩
end Go.Proofs.YtcgpjceopnfahaaGreat
