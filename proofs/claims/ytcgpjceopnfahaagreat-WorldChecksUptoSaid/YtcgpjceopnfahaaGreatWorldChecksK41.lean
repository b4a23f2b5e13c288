/- The reference's ICheck. | world.CheckLeaf, the reference's OCheckLeaf (gen_wc.py printed it). -/
import Derived.Test.YtcgpjceopnfahaaGreatWorldChecksK40
import Derived.Test.YtcgpjceopnfahaaGreatWorldChecksK29
import Derived.Test.YtcgpjceopnfahaaGreatWorldChecksK30
import Derived.Test.YtcgpjceopnfahaaGreatWorldChecksK26
set_option linter.unusedSimpArgs false
set_option linter.unusedVariables false
set_option maxHeartbeats 4000000
set_option maxRecDepth 100000
namespace Go.Proofs.YtcgpjceopnfahaaGreat
open Go.RowKit
theorem icheck_any (H:List UInt8)(hH:H.length=32)(ka:Option Addr)(kn kc:Nat)(key:List UInt8)(hkn:key.length=kn)(ca:Option Addr)(cn cc:Nat)(ps:List (Value × List UInt8))(hcn:ps.length=cn)(w:World)
  (hk:Bytes w (.slice ka kn kc) key) (hc:Texts w (.slice ca cn cc) ps) (hN:cn≤1048576) (hNs:∀ q∈ps,q.2.length≤1048576) :
  Calls Tryz.prog 68 #[.agg (H.map u8v).toArray,.slice ka kn kc,.slice ca cn cc] w (ShwPost (chk H key (ps.map (·.2))) w):=by
 obtain ⟨C,hC⟩:∃ C,C=H.map u8v:=⟨_,rfl⟩
 have hCl:C.length=32:=by rw [hC,List.length_map,hH]
 obtain ⟨w1,hw1⟩:∃ w1,w1=w.alloc (.cells C.toArray 30):=⟨_,rfl⟩
 have hz:Blk 30 w1 w.heap.size C:=by rw [hw1];exact Blk.new w _ _
 have hbel:Below w.heap.size w w1:=by rw [hw1];exact (Below.refl _ _).alloc (Nat.le_refl _) _
 obtain ⟨R,hR⟩:∃ R,R=chk H key (ps.map (·.2)):=⟨_,rfl⟩
 rw [←hR,←hC]
 have Hw1:=Lib.hid hw1
 by_cases h32:32<kn
 ·have h32i:(32:Int)<(kn:Int):=by omega
  have hR2:R=([],3):=by rw [hR];unfold chk;rw [if_pos (by omega)]
  subst hR2
  clear hw1 hR hC
  go_enter Tryz.func68,Tryz.ntmps68
  go_wp2_with fail
  rw [←Hw1.out]
  go_ret2
  exact ⟨none,0,0,rfl,hbel,RowOf.nil b8 1 _⟩
 ·have h32i:(kn:Int)≤32:=by omega
  have hR2:R=shw H (halvesL key) true (ps.map (·.2)):=by rw [hR];unfold chk;rw [if_neg (by omega)]
  have hk1:=hk.below hbel
  have hc1:=hc.below hbel
  have ch:=fun u (hu:Bytes u (.slice ka kn kc) key)=>nhalves_any ka kc key u (by rw [hkn];exact hu) (by rw [hkn];omega)
  rw [hkn] at ch
  have cs:=fun u (hu:Texts u (.slice ca cn cc) ps)=>show_any ps H (halvesL key) true ca cn cc u hH (halves_lt key) (by rw [halves_len];omega) hcn hu hN hNs
  rw [←hR2] at cs
  simp only [←hC] at cs
  obtain ⟨P0,hP0⟩:∃ P,P=halvesL key:=⟨_,rfl⟩
  simp only [←hP0] at cs ch
  have Ch:=Lib.hid ch
  have Cs:=Lib.hid cs
  have Hz:=Lib.hid hz
  have HCl:=Lib.hid hCl
  clear hw1 hR hC ch cs hR2 hP0 hNs hCl hz hH hkn hcn hk hc
  go_enter Tryz.func68,Tryz.ntmps68
  go_wp2_with fail
  rw [←Hw1.out]
  refine wp_region_typed w1 8 (by kernel_rfl) (by kernel_rfl) (Below.refl _ _) ?_;simp only [List.take_succ_cons,List.take_zero,List.take_nil]
  (refine wpX_step (by rfl) (fun K hK=>?_);rw [if_pos (by rfl)];refine ⟨_,fun u=>const_loadm _ (.tmp 3) (by rfl) _ _ (by rfl) aggHash' HCl.out (rangeAt.ext (Blk.all0 Hz.out) u),hK _ ?_⟩;clear hK K;simp only [Act.put,List.setIfInBounds_toArray,List.set_cons_zero,List.set_cons_succ])
  (refine wpX_step (by rfl) (fun K hK=>?_);go_simp;first|(refine hK _ ?_;clear hK K)|(apply Exists.intro;refine ⟨fun _=>?_,hK _ ?_⟩;fail;clear hK K))
  refine wpX_rel 13 (SlT P0) rfl (of_decide_eq_true rfl) (SlT.mono _) (fun w6 hw6=>?_) ?_
  ·simp only [relOf,List.filter_nil,forallRel]
   refine ⟨rfl,?_⟩
   go_simp
   refine (Ch.out w6 (hk1.below hw6)).mono ?_
   rintro e w7 ⟨v,rfl,o7,b7⟩
   obtain ⟨a7,c7,rfl,_⟩:=o7.form
   exact ⟨_,rfl,⟨a7,_,c7,rfl,o7.row⟩,b7⟩
  refine wpX_eq (.string ⟨P0.toArray⟩) (fun w6 hw6=>?_) ?_
  ·change forallRel w6 [(13,_)] _ _
   rintro v13 ⟨a,n,c,rfl,h7⟩
   have c1:=run_str (P:=Tryz.prog) (src:=25) (dst:=9) elU8.ht (by kernel_rfl) (by kernel_rfl) h7
   simp only [forallRel]
   refine ⟨rfl,?_⟩
   go_simp
   exact Below.refl _ _
  (refine wpX_step (by rfl) (fun K hK=>?_);go_simp;first|(refine hK _ ?_;clear hK K)|(apply Exists.intro;refine ⟨fun _=>?_,hK _ ?_⟩;fail;clear hK K))
  refine wpX_rel 16 (TupS R) rfl (of_decide_eq_true rfl) (TupS.mono _) (fun w6 hw6=>?_) ?_
  ·change forallRel w6 [] _ _
   simp only [forallRel]
   refine ⟨rfl,?_⟩
   go_simp
   refine (Cs.out w6 (hc1.below hw6)).mono ?_
   rintro e w7 ⟨a,n,c,rfl,b7,h7⟩
   exact ⟨_,rfl,⟨a,n,c,rfl,h7⟩,b7⟩
  refine wpX_rel 17 (SlT R.1) rfl (of_decide_eq_true rfl) (SlT.mono _) (fun w6 hw6=>?_) ?_
  ·change forallRel w6 [(16,_)] _ _
   rintro v73 ⟨a,n,c,rfl,h7⟩
   simp only [forallRel]
   refine ⟨rfl,?_⟩
   go_simp
   exact ⟨Below.refl _ _,a,n,c,rfl,h7⟩
  refine wpX_eq (.int .i64 R.2) (fun w6 hw6=>?_) ?_
  ·change forallRel w6 [(16,_)] _ _
   rintro v73 ⟨a,n,c,rfl,h7⟩
   simp only [forallRel]
   refine ⟨rfl,?_⟩
   go_simp
   exact Below.refl _ _
  refine wpX_nil ?_
  intro u6 hb6 v13 _ v73 _ v74 h74
  change wpList _ _ _ [_,_] _ _
  obtain ⟨a,n,c,rfl,h7⟩:=h74
  go_wp2_with fail
  go_ret2
  exact ⟨a,n,c,rfl,Below.then hbel hb6,h7⟩
theorem shw_len:∀ (cs:List (List UInt8))(h l:List UInt8)(f:Bool),(∀ c∈cs,c.length≤1048576)→(shw h l f cs).1.length≤1048576
 | [],h,l,f,_=>by simp [shw]
 | c::cs,h,l,f,hc=>by
  have ih:=fun h' l'=>shw_len cs h' l' false (fun x hx=>hc x (List.mem_cons_of_mem _ hx))
  unfold shw
  split
  ·cases hr:rdB c with
   | none=>simp
   | some s =>
    dsimp only
    have ho:=rd_le hr (hc c List.mem_cons_self)
    split
    ·simp
    ·split
     ·split
      ·exact nxt_val ho.2.2.1
      ·simp
     ·exact ih _ _
  ·simp
theorem chk_len (H key:List UInt8)(cs:List (List UInt8))(hc:∀ c∈cs,c.length≤1048576):(chk H key cs).1.length≤1048576:=by
 unfold chk
 split
 ·simp
 ·exact shw_len cs _ _ _ hc
def LcR (r:List UInt8 × Int)(H:Lf)(E:Int):Prop:=(r.2≠0∧H=zL∧E=r.2)∨(r.2=0∧r.1=[]∧H=lfZ.1∧E=lfZ.2)∨(r.2=0∧r.1≠[]∧RdL r.1 H E)
theorem LcR.one {r:List UInt8 × Int}{H G:Lf}{E F:Int}(k:H.Ok)(j:G.Ok)(x:LcR r H E)(y:LcR r G F):H=G∧E=F:=by
 rcases x with ⟨x1,rfl,rfl⟩|⟨x1,x2,rfl,rfl⟩|⟨x1,x2,x3⟩<;>rcases y with ⟨y1,rfl,rfl⟩|⟨y1,y2,rfl,rfl⟩|⟨y1,y2,y3⟩
 ·exact ⟨rfl,rfl⟩
 ·exact absurd y1 x1
 ·exact absurd y1 x1
 ·exact absurd x1 y1
 ·exact ⟨rfl,rfl⟩
 ·exact absurd x2 y2
 ·exact absurd x1 y1
 ·exact absurd y2 x2
 ·exact RdL.one k j x3 y3
def LcPost (r:List UInt8 × Int)(w:World)(e:Ending)(w':World):Prop:=∃ H E,e=.returned (.tuple #[.agg (lfcs H).toArray,.int .i64 E])∧H.Ok∧LcR r H E∧Below w.heap.size w w'
def TupW (V:List UInt8)(E:Int):Ty:=fun v w=>∃ a n c,v=.tuple #[.slice a n c,.int .i64 E]∧Bytes w (.slice a n c) V
theorem TupW.mono (V:List UInt8)(E:Int):Mono (TupW V E):=fun _ _ _ ⟨a,n,c,h1,h2⟩ hb=>⟨a,n,c,h1,RowOf.kept h2 hb⟩
def SlW (V:List UInt8):Ty:=fun v w=>∃ a n c,v=.slice a n c∧Bytes w (.slice a n c) V
theorem SlW.mono (V:List UInt8):Mono (SlW V):=fun _ _ _ ⟨a,n,c,h1,h2⟩ hb=>⟨a,n,c,h1,RowOf.kept h2 hb⟩
theorem addr_bytes {u:World}{g:Nat}{A:List UInt8}(h:Blk 41 u g (by8 A))(hA:A.length=8):Bytes u (.slice (some ⟨g,0,none⟩) 8 8) A:=addr_row h hA
theorem aggAddr41:Agg Tryz.prog 41 8:=⟨_,Tryz.underlying41,rfl,by kernel_rfl⟩
theorem checkLeaf_any (St:List UInt8)(hSt:St.length=32)(A:List UInt8)(hA:A.length=8)(ca:Option Addr)(cn cc:Nat)(ps:List (Value × List UInt8))(hcn:ps.length=cn)(w:World)(hc:Texts w (.slice ca cn cc) ps)(hN:cn≤1048576)(hNs:∀ q∈ps,q.2.length≤1048576):Calls Tryz.prog 21 #[.agg (St.map u8v).toArray,.agg (by8 A).toArray,.slice ca cn cc] w (LcPost (chk St (sumB A) (ps.map (·.2))) w):=by
 obtain ⟨w1,hw1⟩:∃ w1,w1=((w.alloc (.cells (St.map u8v).toArray 30)).alloc (.cells (by8 A).toArray 41)).alloc (.cells (lfcs zL).toArray 32):=⟨_,rfl⟩
 have hs:Blk 30 w1 w.heap.size (St.map u8v):=by rw [hw1];exact ((Blk.new w _ _).alloc _).alloc _
 have ha:Blk 41 w1 (w.heap.size+1) (by8 A):=by
  have:=(Blk.new (w.alloc (.cells (St.map u8v).toArray 30)) 41 (by8 A)).alloc (.cells (lfcs zL).toArray 32)
  simp only [World.size_alloc] at this
  rw [hw1];exact this
 have hz:Blk 32 w1 (w.heap.size+2) (lfcs zL):=by
  have:=Blk.new ((w.alloc (.cells (St.map u8v).toArray 30)).alloc (.cells (by8 A).toArray 41)) 32 (lfcs zL)
  simp only [World.size_alloc] at this
  rw [hw1];exact this
 have hbel:Below w.heap.size w w1:=by rw [hw1];exact (((Below.refl _ _).alloc (Nat.le_refl _) _).alloc (by simp) _).alloc (by simp;omega) _
 have hwe:w1=((w.alloc (.cells (St.map u8v).toArray 30)).alloc (.cells (by8 A).toArray 41)).alloc (.cells Tryz.zeroCells32 32):=by rw [hw1,zcLf]
 have hl69:=lfcs_len zL_ok
 have hrl:=chk_len St (sumB A) (ps.map (·.2)) (fun c hc=>by obtain ⟨q,hq,rfl⟩:=List.mem_map.1 hc;exact hNs q hq)
 have hSl:(sumB A).length=32:=outB_len _
 have c0:=fun u (hu:Below w1.heap.size w1 u)=>sum_any (some ⟨w.heap.size+1,0,none⟩) 8 8 A hA u (addr_bytes (ha.kept hu) hA)
 have c1:=fun (a:Option Addr) (c:Nat) u (hk:Bytes u (.slice a 32 c) (sumB A)) (hu:Below w1.heap.size w1 u)=>check_any St hSt a 32 c (sumB A) hSl ca cn cc ps hcn u hk ((hc.below hbel).below hu) hN hNs
 have c2:=fun u=>zleaf_any u
 have c3:=fun (a:Option Addr) (n c:Nat) (b:List UInt8) (hb:b.length=n) (hn:n≤1048576) u (hu:Bytes u (.slice a n c) b)=>rleaf_any a n c b hb hn u hu
 change ∀ u,Calls _ _ #[.agg #[.int .u64 0,.int .u64 0,.int .u64 0,.int .u64 0,.int .u64 0,.slice none 0 0,.slice none 0 0]] u _ at c2
 have kz:=lfZ_ok
 obtain ⟨RZ,hRZ⟩:∃ R,R=lfZ:=⟨_,rfl⟩
 have hLc:∀ (r:List UInt8 × Int) (H:Lf) (E:Int),LcR r H E↔((r.2≠0∧H=zL∧E=r.2)∨(r.2=0∧r.1=[]∧H=RZ.1∧E=RZ.2)∨(r.2=0∧r.1≠[]∧RdL r.1 H E)):=fun r H E=>by rw [hRZ];rfl
 simp only [←hRZ] at c2 kz
 obtain ⟨ZL,ZE⟩:=RZ
 have hZl:=lfcs_len kz
 have hZo:=lfcs_one ZL
 obtain ⟨R,hR⟩:∃ R,R=chk St (sumB A) (ps.map (·.2)):=⟨_,rfl⟩
 simp only [←hR] at c1 hrl ⊢
 obtain ⟨V,E⟩:=R
 unfold ShwPost at c1
 unfold LfPost at c2
 dsimp only at c1 c2 hrl kz hZl
 obtain ⟨SB,hSB⟩:∃ B,B=sumB A:=⟨_,rfl⟩
 simp only [←hSB] at c0 c1 hSl
 obtain ⟨SC,hSC⟩:∃ C,C=St.map u8v:=⟨_,rfl⟩
 have hSCl:SC.length=32:=by rw [hSC,List.length_map];exact hSt
 obtain ⟨AC,hAC⟩:∃ C,C=by8 A:=⟨_,rfl⟩
 rw [←hSC,←hAC] at hwe
 rw [←hSC] at hs
 simp only [←hSC] at c1
 rw [←hSC,←hAC]
 have HLc:=Lib.hid hLc
 have HSl:=Lib.hid hSl
 have HSCl:=Lib.hid hSCl
 have HZl:=Lib.hid hZl
 have HZo:=Lib.hid hZo
 have Kz:=Lib.hid kz
 have Hrl:=Lib.hid hrl
 have HWe:=Lib.hid hwe
 have C0:=Lib.hid c0
 have C1:=Lib.hid c1
 have C2:=Lib.hid c2
 have C3:=Lib.hid c3
 have S1:=Lib.hid hs.all0
 have s8:=fun off u=>sl8 (w.heap.size+1) off u
 clear hw1 hwe ha hrl c0 c1 c2 c3 kz hRZ hLc hZl hZo hR hSB hSC hAC hSl hSCl hSt hA hcn hc hN hNs
 have hSl2:(by8 SB).length=32:=by rw [by8_len];exact HSl.out
 have HSo:=Lib.hid (u8_one SB)
 have C0b:Hid (∀ u,Below w1.heap.size w1 u→Calls Tryz.prog 37 #[.slice (some ⟨w.heap.size+1,0,none⟩) 8 8] u fun e w'=>e=.returned (.agg (by8 SB).toArray)∧Below u.heap.size u w'):=C0
 go_enter Tryz.func21,Tryz.ntmps21
 go_upto_region 2 with (first
  |(rw [←HWe.out])
  |(go_at_call 37;(try rw [←HWe.out]);(with_reducible refine (C0b.out _ (Below.refl _ _)).mono ?_);rintro e w2 ⟨rfl,b2⟩;have n2:=Blk.new w2 30 zh)
  |((with_reducible show wpList _ _ _ (⟨none,.store _ _ (.tmp 12),_,_,_,_⟩::_) _ _);refine wpList_storeA (o:=⟨none,_,_,_,_,_⟩) (by rfl) 30 (.tmp 8) (.tmp 12) (by rfl) w2.heap.size (by8 SB) (by rfl) (by rfl) aggHash' n2 hSl2 (by rfl) HSo.out ((Below.refl w2.heap.size w2).alloc (Nat.le_refl _) _) (Nat.le_refl _) ?_;intro w3 h3 b3 _))
 have b13:=Below.then b2 b3
 have hz3:=hz.kept b13
 have hbel3:=Below.then hbel b13
 have hfk:Hid (∀ u,Below w3.heap.size w3 u→Bytes u (.slice (some ⟨w2.heap.size,0,none⟩) 32 32) SB):=Lib.hid fun u hu=>hash_bytes (h3.kept hu) HSl.out
 have S3:=Lib.hid (hs.kept b13).all0
 have s32:=fun off u=>sl32 w2.heap.size off u
 clear h3 n2 b2 b3 hs hz s8 hSl2
 refine wp_region_typed w3 9 (by kernel_rfl) (by kernel_rfl) (Below.refl _ _) ?_;simp only [List.take_succ_cons,List.take_zero,List.take_nil]
 (refine wpX_step (by rfl) (fun K hK=>?_);rw [if_pos (by rfl)];refine ⟨_,fun u=>const_loadm _ (.tmp 3) (by rfl) _ _ (by rfl) aggHash' HSCl.out (rangeAt.ext S3.out u),hK _ ?_⟩;clear hK K;simp only [Act.put,List.setIfInBounds_toArray,List.set_cons_zero,List.set_cons_succ])
 iterate 2 (refine wpX_step (by rfl) (fun K hK=>?_);go_simp;first|(refine hK _ ?_;clear hK K)|(apply Exists.intro;refine ⟨fun _=>?_,hK _ ?_⟩;fail;clear hK K))
 refine wpX_rel 17 (TupW V E) rfl (of_decide_eq_true rfl) (TupW.mono _ _) (fun w7 hw7=>?_) ?_
 ·simp only [relOf,List.filter_nil,forallRel]
  refine ⟨rfl,?_⟩
  go_simp
  refine (C1.out _ _ w7 (hfk.out w7 hw7) (Below.then b13 hw7)).mono ?_
  rintro e w8 ⟨va,vn,vc,rfl,b8,hv⟩
  exact ⟨_,rfl,⟨va,vn,vc,rfl,hv⟩,b8⟩
 refine wpX_rel 13 (TupW V E) rfl (of_decide_eq_true rfl) (TupW.mono _ _) (fun w7 hw7=>?_) ?_
 ·change forallRel w7 [(17,_)] _ _
  rintro v ⟨va,vn,vc,rfl,hv⟩
  simp only [forallRel]
  refine ⟨rfl,?_⟩
  go_simp
  exact ⟨Below.refl _ _,_,_,_,rfl,hv⟩
 refine wpX_rel 18 (SlW V) rfl (of_decide_eq_true rfl) (SlW.mono _) (fun w7 hw7=>?_) ?_
 ·change forallRel w7 [(13,_)] _ _
  rintro v ⟨va,vn,vc,rfl,hv⟩
  simp only [forallRel]
  refine ⟨rfl,?_⟩
  go_simp
  exact ⟨Below.refl _ _,_,_,_,rfl,hv⟩
 refine wpX_eq (.int .i64 E) (fun w7 hw7=>?_) ?_
 ·change forallRel w7 [(13,_)] _ _
  rintro v ⟨va,vn,vc,rfl,hv⟩
  simp only [forallRel]
  refine ⟨rfl,?_⟩
  go_simp
  exact Below.refl _ _
 refine wpX_rel 9 (SlW V) rfl (of_decide_eq_true rfl) (SlW.mono _) (fun w7 hw7=>?_) ?_
 ·change forallRel w7 [(18,_)] _ _
  rintro v ⟨va,vn,vc,rfl,hv⟩
  simp only [forallRel]
  refine ⟨rfl,?_⟩
  go_simp
  exact ⟨Below.refl _ _,_,_,_,rfl,hv⟩
 (refine wpX_step (by rfl) (fun K hK=>?_);go_simp;first|(refine hK _ ?_;clear hK K)|(apply Exists.intro;refine ⟨fun _=>?_,hK _ ?_⟩;fail;clear hK K))
 refine wpX_nil ?_
 intro u2 hb2 v17 _ v13 _ v18 _ v9 h9
 change forallRel u2 [] _ _
 simp only [forallRel,List.drop_succ_cons,List.drop_zero,List.drop_nil]
 obtain ⟨va,vn,vc,rfl,hv⟩:=h9
 have hz4:=Blk.kept hz3 hb2
 have hbel4:=Below.then hbel3 hb2
 have Hvl:=Lib.hid hv.fits.1
 clear s32
 try simp only [Act.put,List.setIfInBounds_toArray,List.set_cons_zero,List.set_cons_succ]
 by_cases hE:E=0
 ·subst hE
  by_cases hV:vn=0
  ·have hVn:V=[]:=List.eq_nil_of_length_eq_zero (by have:=Hvl.out;omega)
   have hvi:((vn:Int)==0)=true:=by rw [hV];rfl
   go_wp2_with (first
    |(go_at_call 8;(with_reducible refine (C2.out _).mono ?_);rintro e w5 ⟨rfl,b5⟩;have hz5:=hz4.kept b5;have hbel5:=Below.then hbel4 b5)
    |((with_reducible show wpList _ _ _ (⟨none,.store _ _ (.tmp 31),_,_,_,_⟩::_) _ _);refine wpList_storeA (o:=⟨none,_,_,_,_,_⟩) (by rfl) 32 (.tmp 6) (.tmp 31) (by rfl) (w.heap.size+2) (lfcs ZL) (by rfl) (by rfl) aggLf hz5 HZl.out hl69 HZo.out hbel5 (by omega) ?_;intro w6 h6 bel6 _))
   exact bodyPost_ret (v:=.tuple #[.agg (lfcs ZL).toArray,.int .i64 ZE]) (results_blk_tmp rfl _ _ (w.heap.size+2) aggLf h6 HZl.out rfl rfl) rfl ⟨ZL,ZE,rfl,Kz.out,(HLc.out _ _ _).2 (.inr (.inl ⟨rfl,hVn,rfl,rfl⟩)),bel6⟩
  ·have hVn:V≠[]:=fun e=>hV (by rw [Hvl.out,e];rfl)
   have hvi:((vn:Int)==0)=false:=by rw [beq_eq_false_iff_ne];omega
   have cr:=C3.out va vn vc V Hvl.out.symm (by have:=Hrl.out;have:=Hvl.out;omega)
   have Cr:=Lib.hid cr
   clear cr
   go_wp2_with (first
    |(go_at_call 10;(with_reducible refine (Cr.out _ hv).mono ?_);rintro e w5 ⟨H,EH,rfl,kH,rH,b5⟩;have hz5:=hz4.kept b5;have hbel5:=Below.then hbel4 b5;have hHl:=lfcs_len kH;have hHo:=lfcs_one H)
    |((with_reducible show wpList _ _ _ (⟨none,.store _ _ (.tmp 35),_,_,_,_⟩::_) _ _);refine wpList_storeA (o:=⟨none,_,_,_,_,_⟩) (by rfl) 32 (.tmp 6) (.tmp 35) (by rfl) (w.heap.size+2) (lfcs H) (by rfl) (by rfl) aggLf hz5 hHl hl69 hHo hbel5 (by omega) ?_;intro w6 h6 bel6 _))
   exact bodyPost_ret (v:=.tuple #[.agg (lfcs H).toArray,.int .i64 EH]) (results_blk_tmp rfl _ _ (w.heap.size+2) aggLf h6 hHl rfl rfl) rfl ⟨H,EH,rfl,kH,(HLc.out _ _ _).2 (.inr (.inr ⟨rfl,hVn,rH⟩)),bel6⟩
 ·have hEi:(E==0)=false:=beq_eq_false_iff_ne.2 hE
  go_wp2_with ((with_reducible show wpList _ _ _ (⟨none,.store _ _ (.tmp 23),_,_,_,_⟩::_) _ _);refine wpList_storeA (o:=⟨none,_,_,_,_,_⟩) (by rfl) 32 (.tmp 6) (.tmp 23) (by rfl) (w.heap.size+2) (lfcs zL) (by rfl) (by first|rfl|exact congrArg Value.agg zcLf) aggLf hz4 hl69 hl69 (lfcs_one _) hbel4 (by omega) ?_;intro w6 h6 bel6 _)
  exact bodyPost_ret (v:=.tuple #[.agg (lfcs zL).toArray,.int .i64 E]) (results_blk_tmp rfl _ _ (w.heap.size+2) aggLf h6 hl69 rfl rfl) rfl ⟨zL,E,rfl,zL_ok,(HLc.out _ _ _).2 (.inl ⟨hE,rfl,rfl⟩),bel6⟩
theorem ocheckLeaf_any (St:List UInt8)(hSt:St.length=32)(A:List UInt8)(hA:A.length=8)(ca:Option Addr)(cn cc:Nat)(ps:List (Value × List UInt8))(hcn:ps.length=cn)(w:World)(hc:Texts w (.slice ca cn cc) ps)(hN:cn≤1048576)(hNs:∀ q∈ps,q.2.length≤1048576):Calls Tryz.prog 22 #[.agg (St.map u8v).toArray,.agg (by8 A).toArray,.slice ca cn cc] w (LcPost (chk St (sumB A) (ps.map (·.2))) w):=by
 obtain ⟨w1,hw1⟩:∃ w1,w1=((w.alloc (.cells (St.map u8v).toArray 30)).alloc (.cells (by8 A).toArray 41)).alloc (.cells (lfcs zL).toArray 32):=⟨_,rfl⟩
 have hs:Blk 30 w1 w.heap.size (St.map u8v):=by rw [hw1];exact ((Blk.new w _ _).alloc _).alloc _
 have ha:Blk 41 w1 (w.heap.size+1) (by8 A):=by
  have:=(Blk.new (w.alloc (.cells (St.map u8v).toArray 30)) 41 (by8 A)).alloc (.cells (lfcs zL).toArray 32)
  simp only [World.size_alloc] at this
  rw [hw1];exact this
 have hz:Blk 32 w1 (w.heap.size+2) (lfcs zL):=by
  have:=Blk.new ((w.alloc (.cells (St.map u8v).toArray 30)).alloc (.cells (by8 A).toArray 41)) 32 (lfcs zL)
  simp only [World.size_alloc] at this
  rw [hw1];exact this
 have hbel:Below w.heap.size w w1:=by rw [hw1];exact (((Below.refl _ _).alloc (Nat.le_refl _) _).alloc (by simp) _).alloc (by simp;omega) _
 have hwe:w1=((w.alloc (.cells (St.map u8v).toArray 30)).alloc (.cells (by8 A).toArray 41)).alloc (.cells Tryz.zeroCells32 32):=by rw [hw1,zcLf]
 have hl69:=lfcs_len zL_ok
 have hrl:=chk_len St (sumB A) (ps.map (·.2)) (fun c hc=>by obtain ⟨q,hq,rfl⟩:=List.mem_map.1 hc;exact hNs q hq)
 have hSl:(sumB A).length=32:=outB_len _
 have c0:=fun u (hu:Below w1.heap.size w1 u)=>sumKey_any (some ⟨w.heap.size+1,0,none⟩) 8 8 A hA u (addr_bytes (ha.kept hu) hA) (by omega)
 have c1:=fun (a:Option Addr) (c:Nat) u (hk:Bytes u (.slice a 32 c) (sumB A)) (hu:Below w1.heap.size w1 u)=>icheck_any St hSt a 32 c (sumB A) hSl ca cn cc ps hcn u hk ((hc.below hbel).below hu) hN hNs
 have c2:=fun u=>zoleaf_any u
 have c3:=fun (a:Option Addr) (n c:Nat) (b:List UInt8) (hb:b.length=n) (hn:n≤1048576) u (hu:Bytes u (.slice a n c) b)=>orleaf_any a n c b hb hn u hu
 change ∀ u,Calls _ _ #[.agg #[.int .u64 0,.int .u64 0,.int .u64 0,.int .u64 0,.int .u64 0,.slice none 0 0,.slice none 0 0]] u _ at c2
 have kz:=lfZ_ok
 obtain ⟨RZ,hRZ⟩:∃ R,R=lfZ:=⟨_,rfl⟩
 have hLc:∀ (r:List UInt8 × Int) (H:Lf) (E:Int),LcR r H E↔((r.2≠0∧H=zL∧E=r.2)∨(r.2=0∧r.1=[]∧H=RZ.1∧E=RZ.2)∨(r.2=0∧r.1≠[]∧RdL r.1 H E)):=fun r H E=>by rw [hRZ];rfl
 simp only [←hRZ] at c2 kz
 obtain ⟨ZL,ZE⟩:=RZ
 have hZl:=lfcs_len kz
 have hZo:=lfcs_one ZL
 obtain ⟨R,hR⟩:∃ R,R=chk St (sumB A) (ps.map (·.2)):=⟨_,rfl⟩
 simp only [←hR] at c1 hrl ⊢
 obtain ⟨V,E⟩:=R
 unfold ShwPost at c1
 unfold LfPost at c2
 dsimp only at c1 c2 hrl kz hZl
 obtain ⟨SB,hSB⟩:∃ B,B=sumB A:=⟨_,rfl⟩
 simp only [←hSB] at c0 c1 hSl
 obtain ⟨SC,hSC⟩:∃ C,C=St.map u8v:=⟨_,rfl⟩
 have hSCl:SC.length=32:=by rw [hSC,List.length_map];exact hSt
 obtain ⟨AC,hAC⟩:∃ C,C=by8 A:=⟨_,rfl⟩
 rw [←hSC,←hAC] at hwe
 rw [←hSC] at hs
 simp only [←hSC] at c1
 rw [←hSC,←hAC]
 have HLc:=Lib.hid hLc
 have HSl:=Lib.hid hSl
 have HSCl:=Lib.hid hSCl
 have HZl:=Lib.hid hZl
 have HZo:=Lib.hid hZo
 have Kz:=Lib.hid kz
 have Hrl:=Lib.hid hrl
 have HWe:=Lib.hid hwe
 have C0:=Lib.hid c0
 have C1:=Lib.hid c1
 have C2:=Lib.hid c2
 have C3:=Lib.hid c3
 have S1:=Lib.hid hs.all0
 have s8:=fun off u=>sl8 (w.heap.size+1) off u
 clear hw1 hwe ha hrl c0 c1 c2 c3 kz hRZ hLc hZl hZo hR hSB hSC hAC hSl hSCl hSt hA hcn hc hN hNs
 go_enter Tryz.func22,Tryz.ntmps22
 go_wp2_with (rw [←HWe.out])
 refine wp_region_typed w1 10 (by kernel_rfl) (by kernel_rfl) (Below.refl _ _) ?_;simp only [List.take_succ_cons,List.take_zero,List.take_nil]
 (refine wpX_step (by rfl) (fun K hK=>?_);rw [if_pos (by rfl)];refine ⟨_,fun u=>const_loadm _ (.tmp 3) (by rfl) _ _ (by rfl) aggHash' HSCl.out (rangeAt.ext S1.out u),hK _ ?_⟩;clear hK K;simp only [Act.put,List.setIfInBounds_toArray,List.set_cons_zero,List.set_cons_succ])
 (refine wpX_step (by rfl) (fun K hK=>?_);go_simp;first|(refine hK _ ?_;clear hK K)|(apply Exists.intro;refine ⟨fun _=>?_,hK _ ?_⟩;fail;clear hK K))
 refine wpX_rel 13 (FrT 0 SB) rfl (of_decide_eq_true rfl) (FrT.mono _ _) (fun w7 hw7=>?_) ?_
 ·simp only [relOf,List.filter_nil,forallRel]
  refine ⟨rfl,?_⟩
  go_simp
  refine (C0.out w7 hw7).mono ?_
  rintro e w8 ⟨v,rfl,o8,b8⟩
  exact ⟨v,rfl,o8.lower (Nat.zero_le _),b8⟩
 (refine wpX_step (by rfl) (fun K hK=>?_);go_simp;first|(refine hK _ ?_;clear hK K)|(apply Exists.intro;refine ⟨fun _=>?_,hK _ ?_⟩;fail;clear hK K))
 refine wpX_rel 15 (TupW V E) rfl (of_decide_eq_true rfl) (TupW.mono _ _) (fun w7 hw7=>?_) ?_
 ·change forallRel w7 [(13,_)] _ _
  intro v13 h13
  obtain ⟨ka,kc,rfl,_⟩:=h13.1.form' 32 HSl.out
  simp only [forallRel]
  refine ⟨rfl,?_⟩
  go_simp
  refine (C1.out _ _ w7 h13.1 hw7).mono ?_
  rintro e w8 ⟨va,vn,vc,rfl,b8,hv⟩
  exact ⟨_,rfl,⟨va,vn,vc,rfl,hv⟩,b8⟩
 refine wpX_rel 10 (TupW V E) rfl (of_decide_eq_true rfl) (TupW.mono _ _) (fun w7 hw7=>?_) ?_
 ·change forallRel w7 [(15,_)] _ _
  rintro v ⟨va,vn,vc,rfl,hv⟩
  simp only [forallRel]
  refine ⟨rfl,?_⟩
  go_simp
  exact ⟨Below.refl _ _,_,_,_,rfl,hv⟩
 refine wpX_rel 16 (SlW V) rfl (of_decide_eq_true rfl) (SlW.mono _) (fun w7 hw7=>?_) ?_
 ·change forallRel w7 [(10,_)] _ _
  rintro v ⟨va,vn,vc,rfl,hv⟩
  simp only [forallRel]
  refine ⟨rfl,?_⟩
  go_simp
  exact ⟨Below.refl _ _,_,_,_,rfl,hv⟩
 refine wpX_eq (.int .i64 E) (fun w7 hw7=>?_) ?_
 ·change forallRel w7 [(10,_)] _ _
  rintro v ⟨va,vn,vc,rfl,hv⟩
  simp only [forallRel]
  refine ⟨rfl,?_⟩
  go_simp
  exact Below.refl _ _
 refine wpX_rel 8 (SlW V) rfl (of_decide_eq_true rfl) (SlW.mono _) (fun w7 hw7=>?_) ?_
 ·change forallRel w7 [(16,_)] _ _
  rintro v ⟨va,vn,vc,rfl,hv⟩
  simp only [forallRel]
  refine ⟨rfl,?_⟩
  go_simp
  exact ⟨Below.refl _ _,_,_,_,rfl,hv⟩
 (refine wpX_step (by rfl) (fun K hK=>?_);go_simp;first|(refine hK _ ?_;clear hK K)|(apply Exists.intro;refine ⟨fun _=>?_,hK _ ?_⟩;fail;clear hK K))
 refine wpX_nil ?_
 intro u2 hb2 v13 _ v15 _ v10 _ v16 _ v9 h9
 change forallRel u2 [] _ _
 simp only [forallRel,List.drop_succ_cons,List.drop_zero,List.drop_nil]
 obtain ⟨va,vn,vc,rfl,hv⟩:=h9
 have hz4:=Blk.kept hz hb2
 have hbel4:=Below.then hbel hb2
 have Hvl:=Lib.hid hv.fits.1
 clear s8
 try simp only [Act.put,List.setIfInBounds_toArray,List.set_cons_zero,List.set_cons_succ]
 by_cases hE:E=0
 ·subst hE
  by_cases hV:vn=0
  ·have hVn:V=[]:=List.eq_nil_of_length_eq_zero (by have:=Hvl.out;omega)
   have hvi:((vn:Int)==0)=true:=by rw [hV];rfl
   go_wp2_with (first
    |(go_at_call 9;(with_reducible refine (C2.out _).mono ?_);rintro e w5 ⟨rfl,b5⟩;have hz5:=hz4.kept b5;have hbel5:=Below.then hbel4 b5)
    |((with_reducible show wpList _ _ _ (⟨none,.store _ _ (.tmp 27),_,_,_,_⟩::_) _ _);refine wpList_storeA (o:=⟨none,_,_,_,_,_⟩) (by rfl) 32 (.tmp 6) (.tmp 27) (by rfl) (w.heap.size+2) (lfcs ZL) (by rfl) (by rfl) aggLf hz5 HZl.out hl69 HZo.out hbel5 (by omega) ?_;intro w6 h6 bel6 _))
   exact bodyPost_ret (v:=.tuple #[.agg (lfcs ZL).toArray,.int .i64 ZE]) (results_blk_tmp rfl _ _ (w.heap.size+2) aggLf h6 HZl.out rfl rfl) rfl ⟨ZL,ZE,rfl,Kz.out,(HLc.out _ _ _).2 (.inr (.inl ⟨rfl,hVn,rfl,rfl⟩)),bel6⟩
  ·have hVn:V≠[]:=fun e=>hV (by rw [Hvl.out,e];rfl)
   have hvi:((vn:Int)==0)=false:=by rw [beq_eq_false_iff_ne];omega
   have cr:=C3.out va vn vc V Hvl.out.symm (by have:=Hrl.out;have:=Hvl.out;omega)
   have Cr:=Lib.hid cr
   clear cr
   go_wp2_with (first
    |(go_at_call 11;(with_reducible refine (Cr.out _ hv).mono ?_);rintro e w5 ⟨H,EH,rfl,kH,rH,b5⟩;have hz5:=hz4.kept b5;have hbel5:=Below.then hbel4 b5;have hHl:=lfcs_len kH;have hHo:=lfcs_one H)
    |((with_reducible show wpList _ _ _ (⟨none,.store _ _ (.tmp 31),_,_,_,_⟩::_) _ _);refine wpList_storeA (o:=⟨none,_,_,_,_,_⟩) (by rfl) 32 (.tmp 6) (.tmp 31) (by rfl) (w.heap.size+2) (lfcs H) (by rfl) (by rfl) aggLf hz5 hHl hl69 hHo hbel5 (by omega) ?_;intro w6 h6 bel6 _))
   exact bodyPost_ret (v:=.tuple #[.agg (lfcs H).toArray,.int .i64 EH]) (results_blk_tmp rfl _ _ (w.heap.size+2) aggLf h6 hHl rfl rfl) rfl ⟨H,EH,rfl,kH,(HLc.out _ _ _).2 (.inr (.inr ⟨rfl,hVn,rH⟩)),bel6⟩
 ·have hEi:(E==0)=false:=beq_eq_false_iff_ne.2 hE
  go_wp2_with ((with_reducible show wpList _ _ _ (⟨none,.store _ _ (.tmp 20),_,_,_,_⟩::_) _ _);refine wpList_storeA (o:=⟨none,_,_,_,_,_⟩) (by rfl) 32 (.tmp 6) (.tmp 20) (by rfl) (w.heap.size+2) (lfcs zL) (by rfl) (by first|rfl|exact congrArg Value.agg zcLf) aggLf hz4 hl69 hl69 (lfcs_one _) hbel4 (by omega) ?_;intro w6 h6 bel6 _)
  exact bodyPost_ret (v:=.tuple #[.agg (lfcs zL).toArray,.int .i64 E]) (results_blk_tmp rfl _ _ (w.heap.size+2) aggLf h6 hl69 rfl rfl) rfl ⟨zL,E,rfl,zL_ok,(HLc.out _ _ _).2 (.inl ⟨hE,rfl,rfl⟩),bel6⟩
end Go.Proofs.YtcgpjceopnfahaaGreat
