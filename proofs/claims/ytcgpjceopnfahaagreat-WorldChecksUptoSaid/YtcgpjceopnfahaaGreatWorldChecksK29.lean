/- The reference's HRoot of an empty tree; the leaves of an empty account (gen_zm.py printed it). | The reference's OReadLeaf: bytes that are no leaf (gen_lf4.py p -/
import Derived.Test.YtcgpjceopnfahaaGreatWorldChecksK28
import Derived.Test.YtcgpjceopnfahaaGreatWorldChecksK26
set_option linter.unusedSimpArgs false
set_option linter.unusedVariables false
set_option maxHeartbeats 4000000
set_option maxRecDepth 100000
namespace Go.Proofs.YtcgpjceopnfahaaGreat
open Go.RowKit
theorem zgright (w:World):Calls Tryz.prog 93 #[.agg #[.int .i64 0,.slice none 0 0,.slice none 0 0,.slice none 0 0]] w fun e w'=>e=.returned (.bool true)∧Below w.heap.size w w':=by
 have hz0:=zN_blk w
 have hbel0:=zN_bel w
 have Cg:Hid (∀ u:World,Calls Tryz.prog 112 #[.slice none 0 0] u fun e w'=>e=.returned (.agg #[.int .i64 0,.slice none 0 0,.slice none 0 0,.slice none 0 0])∧Below u.heap.size u w'):=Lib.hid zgrown
 have Cm:=Lib.hid zsame
 have Cr:=Lib.hid zroutes
 go_enter Tryz.func93,Tryz.ntmps93
 go_wp2_with (go_at_call 118;(with_reducible refine (Cr.out _).mono ?_);rintro e w2 ⟨rfl,b2⟩)
 have hz2:=hz0.kept b2
 have hbel2:=Below.then hbel0 b2
 clear hz0 hbel0
 go_loopw [14] (fun ix wr=>ix=.int .i64 0∧Blk 70 wr w.heap.size (ndcells zN)∧Below w.heap.size w wr) (fun _ _=>0)
 case atStart=>exact ⟨rfl,hz2,hbel2⟩
 case round =>
  obtain ⟨rfl,hz,hbel⟩:=hrel
  obtain ⟨wo,rfl⟩:∃ x,x=wr:=⟨wr,rfl⟩
  clear hz2 hbel2
  have k0:=fun u:Ext wo=>u.cell ((hz.cell 0).trans (show _=some (Value.int .i64 0) from rfl))
  have k1:=fun u:Ext wo=>u.cell ((hz.cell 1).trans (show _=some (Value.slice none 0 0) from rfl))
  have k2:=fun u:Ext wo=>u.cell ((hz.cell 2).trans (show _=some (Value.slice none 0 0) from rfl))
  have k3:=fun u:Ext wo=>u.cell ((hz.cell 3).trans (show _=some (Value.slice none 0 0) from rfl))
  go_wp2_with fail
  refine wp_region_typed wo 8 (by kernel_rfl) (by kernel_rfl) (Below.refl _ _) ?_;simp only [List.take_succ_cons,List.take_zero,List.take_nil]
  iterate 4 (refine wpX_step (by rfl) (fun K hK=>?_);go_simp;first|(refine hK _ ?_;clear hK K)|(apply Exists.intro;refine ⟨fun _=>?_,hK _ ?_⟩;fail;clear hK K))
  (refine wpX_step (by rfl) (fun K hK=>?_);go_simp;first|(refine hK _ ?_;clear hK K)|(apply Exists.intro;refine ⟨fun _=>?_,hK _ ?_⟩;exact Cg.out _;clear hK K))
  (refine wpX_step (by rfl) (fun K hK=>?_);go_simp;first|(refine hK _ ?_;clear hK K)|(apply Exists.intro;refine ⟨fun _=>?_,hK _ ?_⟩;exact Cm.out _;clear hK K))
  iterate 2 (refine wpX_step (by rfl) (fun K hK=>?_);go_simp;first|(refine hK _ ?_;clear hK K)|(apply Exists.intro;refine ⟨fun _=>?_,hK _ ?_⟩;fail;clear hK K))
  refine wpX_nil ?_
  intro u2 hb2
  change forallRel u2 [] _ _
  simp only [forallRel,List.drop_succ_cons,List.drop_zero,List.drop_nil]
  try simp only [Act.put,List.setIfInBounds_toArray,List.set_cons_zero,List.set_cons_succ]
  go_wp2_with fail
  go_ret
  exact ⟨rfl,Below.then hbel hb2⟩
theorem zhcodes (w:World):Calls Tryz.prog 80 #[.agg (ndcells zN).toArray] w (WhPost zN w):=by
 obtain ⟨t,ht⟩:∃ t,t=zN:=⟨_,rfl⟩
 rw [←ht]
 obtain ⟨w1,hw1⟩:∃ w1,w1=w.alloc (.cells (ndcells t).toArray 70):=⟨_,rfl⟩
 have hz:Blk 70 w1 w.heap.size (ndcells t):=by rw [hw1];exact Blk.new w _ _
 have hbel:Below w.heap.size w w1:=by rw [hw1];exact (Below.refl _ _).alloc (Nat.le_refl _) _
 have c1:Calls Tryz.prog 93 #[.agg (ndcells t).toArray] w1 fun e w'=>e=.returned (.bool (rgt 0 t))∧Below w1.heap.size w1 w':=by rw [ht];exact zgright w1
 have c2:∀ (hr:rgt 0 t=true) u,Below w.heap.size w u→Calls Tryz.prog 109 #[.agg (ndcells t).toArray] u (TcPost (whN t) u):=fun _ u _=>by rw [ht];exact tc_zero none none none 0 0 0 0 0 0 u
 show Calls _ _ _ _ (WhP (rgt 0 t) (whN t) w)
 obtain ⟨R,hR⟩:∃ R,R=rgt 0 t:=⟨_,rfl⟩
 obtain ⟨K,hK⟩:∃ K,K=ndcells t:=⟨_,rfl⟩
 have hKl:K.length=4:=by rw [hK];exact ndcells_len t
 simp only [←hR,←hK] at c1 c2 hz hw1 ⊢
 have C1:=Lib.hid c1
 have Hw1:=Lib.hid hw1
 have HKl:=Lib.hid hKl
 have r1:=hz.all0
 cases R with
 | false =>
  clear c1 c2 hR hK hKl hw1 ht
  go_enter Tryz.func80,Tryz.ntmps80
  go_wp2_with (first
   |((with_reducible show wpList _ _ _ (⟨some 4,_,_,_,_,_⟩::_) _ _);refine wpList_loadW (o:=⟨some 4,_,_,_,_,_⟩) 70 (.tmp 1) (by rfl) w.heap.size 0 (by rfl) aggNode HKl.out (by rw [←Hw1.out];exact r1) (by rfl) ?_)
   |(go_at_call 93;rw [←Hw1.out];(with_reducible refine C1.out.mono ?_);rintro e w2 ⟨rfl,b2⟩;have bb2:=Below.then hbel b2))
  go_ret2
  exact ⟨_,[],rfl,RowOf.nil tcell 1 _,fun q hq=>absurd hq (by simp),rfl,bb2,fun k hk=>by simp [Value.ownBlock] at hk⟩
 | true =>
  have C2:=Lib.hid (c2 rfl)
  clear c1 c2 hR hK hKl hw1 ht
  go_enter Tryz.func80,Tryz.ntmps80
  go_wp2_with (first
   |((with_reducible show wpList _ _ _ (⟨some 4,_,_,_,_,_⟩::_) _ _);refine wpList_loadW (o:=⟨some 4,_,_,_,_,_⟩) 70 (.tmp 1) (by rfl) w.heap.size 0 (by rfl) aggNode HKl.out (by rw [←Hw1.out];exact r1) (by rfl) ?_)
   |(go_at_call 93;rw [←Hw1.out];(with_reducible refine C1.out.mono ?_);rintro e w2 ⟨rfl,b2⟩;have bb2:=Below.then hbel b2;have r2:=(hz.kept b2).all0)
   |((with_reducible show wpList _ _ _ (⟨some 7,_,_,_,_,_⟩::_) _ _);refine wpList_loadW (o:=⟨some 7,_,_,_,_,_⟩) 70 (.tmp 1) (by rfl) w.heap.size 0 (by rfl) aggNode HKl.out r2 (by rfl) ?_)
   |(go_at_call 109;(with_reducible refine (C2.out _ bb2).mono ?_);rintro e w3 ⟨v3,ps3,rfl,o3,t3,m3,b3⟩;have bb3:=Below.then bb2 b3))
  go_ret2
  exact ⟨v3,ps3,rfl,o3.row,fun q hq=>⟨(t3 q hq).1,(t3 q hq).2.1,fun k hk=>⟨Nat.le_trans bb2.size ((t3 q hq).2.2 k hk).1,((t3 q hq).2.2 k hk).2.1⟩⟩,m3,bb3,fun k hk=>⟨Nat.le_trans bb2.size (OwnOf.lt o3 k hk),OwnOf.ltT o3 k hk⟩⟩
theorem zhroot (t:Nd)(ht:t=zN)(w:World):Calls Tryz.prog 39 #[.agg (ndcells t).toArray] w fun e w'=>e=.returned (.tuple #[.agg (rtC t).toArray,.int .i64 (if rgt 0 t=true then 0 else 1)])∧Below w.heap.size w w':=by
 obtain ⟨w1,hw1⟩:∃ w1,w1=(w.alloc (.cells (ndcells t).toArray 70)).alloc (.cells zh.toArray 30):=⟨_,rfl⟩
 have hz:Blk 70 w1 w.heap.size (ndcells t):=by rw [hw1];exact (Blk.new w _ _).alloc _
 have hh:Blk 30 w1 (w.heap.size+1) zh:=by
  have:=Blk.new (w.alloc (.cells (ndcells t).toArray 70)) 30 zh
  simp only [World.size_alloc] at this
  rw [hw1];exact this
 have hbel:Below w.heap.size w w1:=by rw [hw1];exact ((Below.refl _ _).alloc (Nat.le_refl _) _).alloc (by simp) _
 have c1:Calls Tryz.prog 80 #[.agg (ndcells t).toArray] w1 (WhP (rgt 0 t) (whN t) w1):=by rw [ht];exact zhcodes w1
 obtain ⟨c,l,hcl⟩:=whN_ne t
 have hrt:rtC t=if rgt 0 t=true then (sumB c).map u8v else zh:=by unfold rtC;rw [hcl];rfl
 obtain ⟨R,hR⟩:∃ R,R=rgt 0 t:=⟨_,rfl⟩
 obtain ⟨K,hK⟩:∃ K,K=ndcells t:=⟨_,rfl⟩
 have hKl:K.length=4:=by rw [hK];exact ndcells_len t
 rw [hrt]
 rw [hcl] at c1
 simp only [←hR,←hK] at c1 hz hw1 ⊢
 have C1:=Lib.hid c1
 have Hw1:=Lib.hid hw1
 have HKl:=Lib.hid hKl
 have r1:=hz.all0
 cases R with
 | false =>
  rw [if_neg (by simp)]
  clear c1 hR hK hKl hw1 ht hrt hcl
  go_enter Tryz.func39,Tryz.ntmps39
  go_wp2_with (first
   |((with_reducible show wpList _ _ _ (⟨some 7,_,_,_,_,_⟩::_) _ _);refine wpList_loadW (o:=⟨some 7,_,_,_,_,_⟩) 70 (.tmp 1) (by rfl) w.heap.size 0 (by rfl) aggNode HKl.out (by have h:=r1;rw [Hw1.out] at h;exact h) (by rfl) ?_)
   |(go_at_call 80;have C2:=C1.out;rw [Hw1.out] at C2;refine C2.mono ?_;rintro e w2 ⟨v2,ps2,rfl,r2,_,m2,b2,_⟩;rw [←Hw1.out] at b2;obtain ⟨x2,y2,rfl,_⟩:=r2.form;have hh2:=hh.kept b2;have bb2:=Below.then hbel b2)
   |((with_reducible show wpList _ _ _ (⟨none,.store _ _ (.tmp 13),_,_,_,_⟩::_) _ _);refine wpList_storeA (o:=⟨none,_,_,_,_,_⟩) (by rfl) 30 (.tmp 2) (.tmp 13) (by rfl) (w.heap.size+1) zh (by rfl) (by rfl) aggHash' hh2 (by rfl) (by rfl) (by intro u hu;rw [List.eq_of_mem_replicate hu];rfl) bb2 (by omega) ?_;intro w3 hh3 bb3 _))
  exact bodyPost_ret (results_blk_tmp rfl _ _ (w.heap.size+1) aggHash' hh3 rfl rfl rfl) rfl ⟨rfl,bb3⟩
 | true =>
  rw [if_pos rfl]
  obtain ⟨S,hS⟩:∃ S,S=(sumB c).map u8v:=⟨_,rfl⟩
  have cs:∀ (a:Option Addr) (n k:Nat) (hn:c.length=n) (x:World),Bytes x (.slice a n k) c→n≤1000000000→Calls Tryz.prog 41 #[.slice a n k] x fun e w'=>e=.returned (.agg S.toArray)∧Below x.heap.size x w':=fun a n k hn x hx hn2=>by rw [hS];exact ssum_any a n k c hn x hx (by omega)
  have HSl:Hid (S.length=32):=Lib.hid (by rw [hS,List.length_map];exact outB_len _)
  have HSo:Hid (∀ u∈S,u.oneCell'=true):=Lib.hid (by rw [hS];intro u hu;obtain ⟨y,_,rfl⟩:=List.mem_map.1 hu;rfl)
  rw [←hS]
  have Cs:=Lib.hid cs
  clear c1 hR hK hKl hw1 ht hrt hcl cs hS
  go_enter Tryz.func39,Tryz.ntmps39
  go_wp2_with (first
   |((with_reducible show wpList _ _ _ (⟨some 7,_,_,_,_,_⟩::_) _ _);refine wpList_loadW (o:=⟨some 7,_,_,_,_,_⟩) 70 (.tmp 1) (by rfl) w.heap.size 0 (by rfl) aggNode HKl.out (by have h:=r1;rw [Hw1.out] at h;exact h) (by rfl) ?_)
   |(go_at_call 80;have C2:=C1.out;rw [Hw1.out] at C2;refine C2.mono ?_;rintro e w2 ⟨v2,ps2,rfl,r2,t2,m2,b2,_⟩;rw [←Hw1.out] at b2;obtain ⟨qv,ps3,rfl,_⟩:=cons_of (m2.trans (if_pos rfl));obtain ⟨t3,l3,_⟩:=t2 _ List.mem_cons_self;dsimp only at t3 l3;obtain ⟨n2,hn2⟩:∃ n,n=ps3.length+1:=⟨_,rfl⟩;have h0n:(0:Int)<(n2:Int):=(by omega);obtain ⟨va,vc,rfl,_⟩:=r2.form' n2 (by rw [hn2];rfl);obtain ⟨b,off,rfl,rr⟩:=RowOf.range (f:=tcell) (size:=1) (fun _=>rfl) r2 0 (Nat.zero_lt_succ _);have k2:w2.cell? ⟨b,off,none⟩=some qv:=rr 0 qv rfl;obtain ⟨qa,qc,rfl,_⟩:=t3.form;obtain ⟨qn,hqn⟩:∃ n,n=c.length:=⟨_,rfl⟩;rw [←hqn] at t3 l3 k2;have Hqn:=Lib.hid hqn;clear hqn hn2 m2 t2;have hh2:=hh.kept b2;have bb2:=Below.then hbel b2)
   |(go_at_call 41;refine (Cs.out qa qn qc Hqn.out.symm _ t3 l3).mono ?_;rintro e w3 ⟨rfl,b3⟩;have hh3:=hh2.kept b3;have bb3:=Below.then bb2 b3)
   |((with_reducible show wpList _ _ _ (⟨none,.store _ _ (.tmp 18),_,_,_,_⟩::_) _ _);refine wpList_storeA (o:=⟨none,_,_,_,_,_⟩) (by rfl) 30 (.tmp 2) (.tmp 18) (by rfl) (w.heap.size+1) S (by rfl) (by rfl) aggHash' hh3 HSl.out (by rfl) HSo.out bb3 (by omega) ?_;intro w4 hh4 bb4 _))
  exact bodyPost_ret (results_blk_tmp rfl _ _ (w.heap.size+1) aggHash' hh4 HSl.out rfl rfl) rfl ⟨rfl,bb4⟩
def lfZ:Lf × Int:=(⟨0,0,sumB (textB []),sumB []⟩,0)
theorem lfZ_ok:lfZ.1.Ok:=⟨by decide,by show 0<W256;unfold W256;omega,outB_len _,outB_len _⟩
theorem zA_ok:zA.Ok:=⟨by decide,by unfold W256;decide,by simp [zA]⟩
theorem rtC_zN:rtC zN=by8 (sumB (textB [])):=rfl
theorem zN_isn (w:World):IsNd w zN:=(OwnNd.zero w 0).is
theorem zleaf_any (w:World):Calls Tryz.prog 8 #[.agg (accs zA).toArray] w (LfPost lfZ w) :=
 leaf_core zA zA_ok (fun y=>y=zN) (sumB (textB [])) (outB_len _) w (zA_in w) (fun u _=>(zslotTree u).mono fun e w' h=>⟨zN,h.1,zN_isn _,rfl,h.2⟩) (fun y u hy he=>(rroot_any y u hy (by rw [he];decide)).mono fun e w' h=>⟨if rgt 0 y=true then 0 else 1,by rw [h.1,he,rtC_zN],h.2⟩)
theorem zoleaf_any (w:World):Calls Tryz.prog 9 #[.agg (accs zA).toArray] w (LfPost lfZ w) :=
 oleaf_core zA zA_ok (by show 0≤_;omega) (fun y=>y=zN) (sumB (textB [])) (outB_len _) w (zA_in w) (fun u _=>(zoslots u).mono fun e w' h=>⟨zN,h.1,zN_isn _,rfl,h.2⟩) (fun y u _ he=>(zhroot y he u).mono fun e w' h=>⟨if rgt 0 y=true then 0 else 1,by rw [h.1,he,rtC_zN],h.2⟩)
theorem orleaf_bad (a:Option Addr)(L c:Nat)(b:List UInt8)(hL:b.length=L)(hLs:L≤1048576)(hbad:decE b≠0∨(decE b=0∧kidsN (decP b)≠4))(w:World)(h:Bytes w (.slice a L c) b):Calls Tryz.prog 11 #[.slice a L c] w (ReadL b w):=by
 have hform:RdL b zL 1:=by
  refine rdl_form ?_
  rcases hbad with h|h
  ·exact .inl h
  ·exact .inr (.inl h.2)
 have hpost:∀ u,Below w.heap.size w u→ReadL b w (.returned (.tuple #[.agg (lfcs zL).toArray,.int .i64 1])) u:=fun u hu=>⟨zL,1,rfl,zL_ok,hform,hu⟩
 have hz:Blk 32 (w.alloc (.cells Tryz.zeroCells32 32)) w.heap.size (lfcs zL):=by rw [zcLf];exact Blk.new w _ _
 have hbel:Below w.heap.size w (w.alloc (.cells Tryz.zeroCells32 32)):=(Below.refl _ _).alloc (Nat.le_refl _) _
 have hlt0:=hz.lt
 have hl69:=lfcs_len zL_ok
 have cc:=fun u (hu:Bytes u (.slice a L c) b)=>pdecode_any a L c b hL hLs u hu
 have Hpost:=Lib.hid hpost
 rcases hbad with hbad|⟨hE,hbad⟩
 ·have hE:=decE_01 b hbad
  rw [hE] at cc
  have C:=Lib.hid cc
  clear cc hE hbad hL hLs hpost
  go_enter Tryz.func11,Tryz.ntmps11
  go_wp2_with (first
   |(go_at_call 45;(with_reducible refine (C.out _ (h.alloc _)).mono ?_);rintro e w1 ⟨it,rfl,b1,hF,hbare,he⟩;have hz1:=hz.kept b1;have hbel1:=Below.then hbel b1;obtain ⟨l,tv,t,kv,ks⟩:=it;obtain ⟨ta,tc,rfl,_,_⟩:=hF.is.inv.1.form;obtain ⟨ka,kc,rfl,_,_⟩:=hF.is.inv.2.1.form;obtain ⟨kn,hkn⟩:∃ kn,kn=ks.length:=⟨_,rfl⟩;rw [←hkn];clear hF hbare he hkn;simp only [icells])
   |((with_reducible show wpList _ _ _ (⟨none,.store _ _ (.tmp 10),_,_,_,_⟩::_) _ _);refine wpList_storeA (o:=⟨none,_,_,_,_,_⟩) (by rfl) 77 (.tmp 4) (.tmp 10) (by rfl) w1.heap.size [.bool l,.slice ta t.length tc,.slice ka kn kc] (by rfl) (by rfl) aggItem (Blk.new w1 77 [.bool false,.slice none 0 0,.slice none 0 0]) (by rfl) (by rfl) (by intro u hu;simp at hu;rcases hu with rfl|rfl|rfl<;>rfl) (((Below.refl w1.heap.size w1).alloc (Nat.le_refl _) (.cells #[.bool false,.slice none 0 0,.slice none 0 0] 77))) (Nat.le_refl _) ?_;intro w4 h4 b4 _;have hz4:=hz1.kept b4;have hbel4:=Below.then hbel1 b4;have c40:w4.cell? ⟨w1.heap.size,0,none⟩=some (.bool l):=h4.cell 0;have c42:w4.cell? ⟨w1.heap.size,2,none⟩=some (.slice ka kn kc):=h4.cell 2)
   |((with_reducible show wpList _ _ _ (⟨none,.store _ _ (.tmp 20),_,_,_,_⟩::_) _ _);refine wpList_storeA (o:=⟨none,_,_,_,_,_⟩) (by rfl) 32 (.tmp 2) (.tmp 20) (by rfl) w.heap.size (lfcs zL) (by rfl) (by first|rfl|exact congrArg Value.agg zcLf) aggLf hz4 hl69 hl69 (lfcs_one _) hbel4 (Nat.le_refl _) ?_;intro w5 hh5 hbel5 _))
  exact bodyPost_ret (v:=.tuple #[.agg (lfcs zL).toArray,.int .i64 1]) (results_blk_tmp rfl _ _ w.heap.size aggLf hh5 hl69 rfl rfl) rfl (Hpost.out _ hbel5)
 ·rw [hE] at cc
  have C:=Lib.hid cc
  have Hbad:=Lib.hid hbad
  clear cc hE hbad hL hLs hpost
  go_enter Tryz.func11,Tryz.ntmps11
  go_wp2_with (first
   |(go_at_call 45;(with_reducible refine (C.out _ (h.alloc _)).mono ?_);rintro e w1 ⟨it,rfl,b1,hF,hbare,he⟩;have hz1:=hz.kept b1;have hbel1:=Below.then hbel b1;obtain ⟨l,tv,t,kv,ks⟩:=it;have hkk:=(kids_of hbare he).1;obtain ⟨ta,tc,rfl,_,_⟩:=hF.is.inv.1.form;obtain ⟨ka,kc,rfl,_,_⟩:=hF.is.inv.2.1.form;obtain ⟨kn,hkn⟩:∃ kn,kn=ks.length:=⟨_,rfl⟩;change ks.length=_ at hkk;rw [←hkn] at hkk;have hne:((kn:Int) != 4)=true:=(by rw [bne_iff_ne];intro e;exact Hbad.out (by omega));rw [←hkn];clear hF hbare he hkk hkn;simp only [icells])
   |((with_reducible show wpList _ _ _ (⟨none,.store _ _ (.tmp 10),_,_,_,_⟩::_) _ _);refine wpList_storeA (o:=⟨none,_,_,_,_,_⟩) (by rfl) 77 (.tmp 4) (.tmp 10) (by rfl) w1.heap.size [.bool l,.slice ta t.length tc,.slice ka kn kc] (by rfl) (by rfl) aggItem (Blk.new w1 77 [.bool false,.slice none 0 0,.slice none 0 0]) (by rfl) (by rfl) (by intro u hu;simp at hu;rcases hu with rfl|rfl|rfl<;>rfl) (((Below.refl w1.heap.size w1).alloc (Nat.le_refl _) (.cells #[.bool false,.slice none 0 0,.slice none 0 0] 77))) (Nat.le_refl _) ?_;intro w4 h4 b4 _;have hz4:=hz1.kept b4;have hbel4:=Below.then hbel1 b4;have c40:w4.cell? ⟨w1.heap.size,0,none⟩=some (.bool l):=h4.cell 0;have c42:w4.cell? ⟨w1.heap.size,2,none⟩=some (.slice ka kn kc):=h4.cell 2)
   |((with_reducible show wpList _ _ _ (⟨none,.store _ _ (.tmp 20),_,_,_,_⟩::_) _ _);refine wpList_storeA (o:=⟨none,_,_,_,_,_⟩) (by rfl) 32 (.tmp 2) (.tmp 20) (by rfl) w.heap.size (lfcs zL) (by rfl) (by first|rfl|exact congrArg Value.agg zcLf) aggLf hz4 hl69 hl69 (lfcs_one _) hbel4 (Nat.le_refl _) ?_;intro w5 hh5 hbel5 _))
  exact bodyPost_ret (v:=.tuple #[.agg (lfcs zL).toArray,.int .i64 1]) (results_blk_tmp rfl _ _ w.heap.size aggLf hh5 hl69 rfl rfl) rfl (Hpost.out _ hbel5)
end Go.Proofs.YtcgpjceopnfahaaGreat
