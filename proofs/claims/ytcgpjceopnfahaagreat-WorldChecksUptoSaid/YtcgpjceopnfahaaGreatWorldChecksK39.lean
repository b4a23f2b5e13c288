/- proof.Check. -/
import Derived.Test.YtcgpjceopnfahaaGreatWorldChecksK38
set_option linter.unusedSimpArgs false
set_option linter.unusedVariables false
set_option maxHeartbeats 4000000
set_option maxRecDepth 100000
namespace Go.Proofs.YtcgpjceopnfahaaGreat
open Go.RowKit
theorem halves_lt (l:List UInt8):∀ x∈halvesL l,x.toNat<16:=by
 intro x hx
 unfold halvesL at hx
 obtain ⟨y,_,hy⟩:=List.mem_flatMap.1 hx
 unfold halfB at hy
 have h256:=y.toNat_lt
 simp only [List.mem_cons,List.not_mem_nil,or_false] at hy
 rcases hy with rfl|rfl
 ·rw [UInt8.toNat_div]
  show y.toNat / 16<16
  omega
 ·rw [UInt8.toNat_mod]
  show y.toNat % 16<16
  omega
def chk (H key:List UInt8)(cs:List (List UInt8)):List UInt8 × Int:=if 32<key.length then ([],3) else shw H (halvesL key) true cs
def ShwPost (R:List UInt8 × Int)(w:World)(e:Ending)(w':World):Prop:=∃ (a:Option Addr) (n c:Nat),e=.returned (.tuple #[.slice a n c,.int .i64 R.2])∧Below w.heap.size w w'∧Bytes w' (.slice a n c) R.1
structure StC (R:List UInt8 × Int)(CS:List (List UInt8))(i:Nat)(pl sl vl:List UInt8):Prop where
 h16:∀ x∈pl,x.toNat<16
 hs:sl.length=32∨sl.length=0
 hv:vl.length≤1048576
 h0:sl=[]→R=(vl,0)
 h1:sl≠[]→R=shw sl pl (decide (i=0)) (CS.drop i)
theorem nxt_len {s:Shq}(ho:okQ s=true){q:List UInt8}(hq:∀ x∈q,x.toNat<16):(nxtP s q).1.length=32∨(nxtP s q).1.length=0:=by
 rcases way_next ho q hq with ⟨_,h,_⟩|⟨k,_,_,_,_,_,_,h⟩
 ·right;rw [h];rfl
 ·exact h
theorem nxt_val {s:Shq}{q:List UInt8}(hs:s.2.2.1.length≤1048576):(nxtP s q).2.2.length≤1048576:=by
 unfold nxtP
 split
 ·split
  ·exact hs
  ·simp
 ·split
  ·split<;>simp
  ·split
   ·cases q with
    | nil=>exact hs
    | cons x q=>simp
   ·simp
theorem stc_step {R:List UInt8 × Int}{CS:List (List UInt8)}{i:Nat}{pl sl vl ct:List UInt8}(St:StC R CS i pl sl vl)(hne:sl≠[])(hi:CS[i]?=some ct)(hct:ct.length≤1048576) :
  (sumB ct≠sl→R=([],4))∧(sumB ct=sl→(rdB ct=none→R=([],1))∧∀ s,rdB ct=some s→(i≠0∧s.1=0→R=([],1)) ∧
   (¬ (i≠0∧s.1=0)→((nxtP s pl).1=[]→i+1<CS.length→R=([],6))∧(¬ ((nxtP s pl).1=[]∧i+1<CS.length)→StC R CS (i+1) (nxtP s pl).2.1 (nxtP s pl).1 (nxtP s pl).2.2))):=by
 have hlt:=(List.getElem?_eq_some_iff.1 hi).1
 have hd:CS.drop i=ct::CS.drop (i+1):=by
  rw [List.drop_eq_getElem_cons hlt]
  rw [(List.getElem?_eq_some_iff.1 hi).2]
 have h1:=St.h1 hne
 rw [hd] at h1
 unfold shw at h1
 constructor
 ·intro h
  rw [if_neg h] at h1
  exact h1
 ·intro h
  rw [if_pos h] at h1
  constructor
  ·intro hr
   rw [hr] at h1
   exact h1
  ·intro s hr
   rw [hr] at h1
   dsimp only at h1
   have ho:=rd_le hr hct
   constructor
   ·rintro ⟨h2,h3⟩
    rw [if_pos ⟨by simpa using h2,h3⟩] at h1
    exact h1
   ·intro h2
    rw [if_neg (fun e=>h2 ⟨by simpa using e.1,e.2⟩)] at h1
    constructor
    ·intro h3 h4
     have:CS.drop (i+1)≠[]:=fun e=>by have:=congrArg List.length e;rw [List.length_drop] at this;simp at this;omega
     rw [if_pos h3,if_neg this] at h1
     exact h1
    ·intro h3
     refine ⟨nxt_rest St.h16,nxt_len ho.1 St.h16,nxt_val ho.2.2.1,fun h4=>?_,fun h4=>?_⟩
     ·have:CS.drop (i+1)=[]:=List.drop_of_length_le (by have:¬ i+1<CS.length:=fun e=>h3 ⟨h4,e⟩;omega)
      rw [if_pos h4,if_pos this] at h1
      exact h1
     ·rw [if_neg h4] at h1
      rw [h1]
      congr 1
theorem check_any (H:List UInt8)(hH:H.length=32)(ka:Option Addr)(kn kc:Nat)(key:List UInt8)(hkn:key.length=kn)(ca:Option Addr)(cn cc:Nat)(ps:List (Value × List UInt8))(hcn:ps.length=cn)(w:World)
  (hk:Bytes w (.slice ka kn kc) key) (hc:Texts w (.slice ca cn cc) ps) (hN:cn≤1048576) (hNs:∀ q∈ps,q.2.length≤1048576) :
  Calls Tryz.prog 67 #[.agg (H.map u8v).toArray,.slice ka kn kc,.slice ca cn cc] w (ShwPost (chk H key (ps.map (·.2))) w):=by
 obtain ⟨C,hC⟩:∃ C,C=H.map u8v:=⟨_,rfl⟩
 rw [←hC]
 obtain ⟨w1,hw1⟩:∃ w1,w1=w.alloc (.cells C.toArray 30):=⟨_,rfl⟩
 have hz:Blk 30 w1 w.heap.size C:=by rw [hw1];exact Blk.new w _ _
 have hbel:Below w.heap.size w w1:=by rw [hw1];exact (Below.refl _ _).alloc (Nat.le_refl _) _
 obtain ⟨R,hR⟩:∃ R,R=chk H key (ps.map (·.2)):=⟨_,rfl⟩
 rw [←hR]
 have Hw1:=Lib.hid hw1
 by_cases h32:32<kn
 ·have h32i:(32:Int)<(kn:Int):=by omega
  have hR2:R=([],3):=by rw [hR];unfold chk;rw [if_pos (by omega)]
  subst hR2
  clear hw1 hR hC
  go_enter Tryz.func67,Tryz.ntmps67
  go_wp2_with fail
  rw [←Hw1.out]
  go_ret2
  exact ⟨none,0,0,rfl,hbel,RowOf.nil b8 1 _⟩
 ·have h32i:¬ (32:Int)<(kn:Int):=by omega
  have hR2:R=shw H (halvesL key) true (ps.map (·.2)):=by rw [hR];unfold chk;rw [if_neg (by omega)]
  have ch:=fun u (hu:Below w.heap.size w u)=>halves_any ka kc key u (by rw [hkn];exact hk.below hu) (by omega)
  rw [hkn] at ch
  have h16:=halves_lt key
  have hpl:=halves_len key
  obtain ⟨P0,hP0⟩:∃ P0,P0=halvesL key:=⟨_,rfl⟩
  rw [←hP0] at hR2 h16 hpl
  simp only [←hP0] at ch
  have HR:=Lib.hid hR2
  have Ch:=Lib.hid ch
  have H16:=Lib.hid h16
  have Hpl:=Lib.hid hpl
  have hz32:Bytes w1 (.slice (some ⟨w.heap.size,0,none⟩) 32 32) H:=blk_bytes (by rw [←hC];exact hz) 32 hH (by unfold maxLen;omega)
  have HH:=Lib.hid hH
  have Hcn:=Lib.hid hcn
  have HNs:=Lib.hid hNs
  clear hw1 hR hR2 ch h16 hpl hP0 hC hkn hH hcn hNs
  go_enter Tryz.func67,Tryz.ntmps67
  go_wp2_with fail
  rw [←Hw1.out]
  refine wp_region_h ((fun u=>Below w1.heap.size w1 u)) (by kernel_rfl) ?_;intro u0 hu0;simp only [List.length_cons,List.length_nil,Nat.reduceAdd,List.replicate_succ,List.replicate_zero]
  have S0:Below w1.heap.size w1 u0:=by rw [hu0];exact (Below.refl _ _).drew
  clear hu0
  (refine wpH_take 0 (by rfl) (by kernel_rfl) (by intro _ _ _ h;first|exact h|(cases h.1)) (by intro _ _ _ _ h;first|exact h|(cases h.1)) (by assumption) (fun K hK=>?_);simp only [List.setIfInBounds_toArray,List.set_cons_zero,List.set_cons_succ] at hK;go_simp;first|(refine hK _ ?_;clear hK K)|(apply Exists.intro;refine ⟨fun _=>rfl,hK _ ?_⟩;clear hK K));(refine wpH_take 2 (by rfl) (by kernel_rfl) (by intro _ _ _ h;first|exact h|(cases h.1)) (by intro _ _ _ _ h;first|exact h|(cases h.1)) (by assumption) (fun K hK=>?_);simp only [List.setIfInBounds_toArray,List.set_cons_zero,List.set_cons_succ] at hK;go_simp;first|(refine hK _ ?_;clear hK K)|(apply Exists.intro;refine ⟨fun _=>rfl,hK _ ?_⟩;clear hK K))
  (refine wpH_only 1 (by rfl) (by kernel_rfl) (fun K hK=>?_);simp only [List.setIfInBounds_toArray,List.set_cons_zero,List.set_cons_succ] at hK;go_simp)
  (with_reducible refine (Ch.out _ (Below.then hbel S0)).mono ?_)
  rintro e u1 ⟨v,rfl,o1,b1⟩
  obtain ⟨a8,c8,rfl,_⟩:=o1.form' P0.length rfl
  have S1:Below w1.heap.size w1 u1:=Below.then S0 b1
  refine hK _ _ S1 ?_;clear hK K
  (refine wpH_take 3 (by rfl) (by kernel_rfl) (by intro _ _ _ h;first|exact h|(cases h.1)) (by intro _ _ _ _ h;first|exact h|(cases h.1)) (by assumption) (fun K hK=>?_);simp only [List.setIfInBounds_toArray,List.set_cons_zero,List.set_cons_succ] at hK;go_simp;first|(refine hK _ ?_;clear hK K)|(apply Exists.intro;refine ⟨fun _=>rfl,hK _ ?_⟩;clear hK K));(refine wpH_take 4 (by rfl) (by kernel_rfl) (by intro _ _ _ h;first|exact h|(cases h.1)) (by intro _ _ _ _ h;first|exact h|(cases h.1)) (by assumption) (fun K hK=>?_);simp only [List.setIfInBounds_toArray,List.set_cons_zero,List.set_cons_succ] at hK;go_simp;first|(refine hK _ ?_;clear hK K)|(apply Exists.intro;refine ⟨fun _=>rfl,hK _ ?_⟩;clear hK K));(refine wpH_take 5 (by rfl) (by kernel_rfl) (by intro _ _ _ h;first|exact h|(cases h.1)) (by intro _ _ _ _ h;first|exact h|(cases h.1)) (by assumption) (fun K hK=>?_);simp only [List.setIfInBounds_toArray,List.set_cons_zero,List.set_cons_succ] at hK;go_simp;first|(refine hK _ ?_;clear hK K)|(apply Exists.intro;refine ⟨fun _=>rfl,hK _ ?_⟩;clear hK K))
  refine wpH_done (by kernel_rfl) ?_
  have r9:Bytes u1 (.slice (some ⟨w.heap.size,0,none⟩) 32 32) H:=hz32.below S1
  have hb1:=Below.then hbel S1
  have r8:=o1.row
  have st:StC R (ps.map (·.2)) 0 P0 H []:=⟨H16.out,.inl HH.out,by simp,fun e=>by have:=HH.out;rw [e] at this;simp at this,fun _=>HR.out⟩
  have St:=Lib.hid st
  clear o1 b1 S0 S1 hz32 hz st
  go_wp2_with fail
  go_loopw [8,9,10,11] (fun pv sv vv ix wr=>∃ (i:Nat) (pl sl vl:List UInt8) (a8:Option Addr) (n8 c8:Nat) (a9:Option Addr) (n9 c9:Nat) (a10:Option Addr) (n10 c10:Nat),i≤cn∧pv=.slice a8 n8 c8∧sv=.slice a9 n9 c9∧vv=.slice a10 n10 c10∧ix=.int .i64 (i:Int) ∧
   Below w.heap.size w wr∧Bytes wr (.slice a8 n8 c8) pl∧Bytes wr (.slice a9 n9 c9) sl∧Bytes wr (.slice a10 n10 c10) vl∧Hid (StC R (ps.map (·.2)) i pl sl vl)) (fun _ _ _ ix _=>cn+1 - (intOf ix).toNat)
  case atStart=>exact ⟨0,P0,H,[],a8,_,c8,some ⟨w.heap.size,0,none⟩,32,32,none,0,0,by omega,rfl,rfl,rfl,rfl,hb1,r8,r9,RowOf.nil b8 1 _,St⟩
  case round =>
   clear hb1 r8 r9 St
   obtain ⟨i,pl,sl,vl,a8,n8,c8,a9,n9,c9,a10,n10,c10,hin,rfl,rfl,rfl,rfl,hbel,r8,r9,r10,St⟩:=hrel
   have l9:=r9.fits.1
   have l10:=r10.fits.1
   by_cases h9:n9=0
   ·subst h9
    have hsl:sl=[]:=List.eq_nil_of_length_eq_zero l9.symm
    have hR:=St.out.h0 hsl
    have hv:=St.out.hv
    obtain ⟨L10,hL10⟩:∃ L,L=vl.length:=⟨_,rfl⟩
    have HL10:=Lib.hid hL10
    subst hR
    have hm0:OwnOf b8 1 5 (wr.alloc (.cells #[] 5)) w.heap.size (.slice (some ⟨wr.heap.size,0,none⟩) 0 0) []:=OwnOf.made b8 1 5 wr w.heap.size [] #[] 0 rfl rfl rfl hbel.size (by unfold maxLen;omega)
    have bA:Below w.heap.size w (wr.alloc (.cells #[] 5)):=hbel.alloc hbel.size _
    have r10':=r10.alloc (.cells #[] 5)
    have hlo:=OwnOf.lt hm0
    clear l9 l10 hsl St hL10
    go_wp2_with (refine wpList_appA (o:=⟨some 76,_,_,_,_,_⟩) (by rfl) (.tmp 74) (.tmp 75) 25 (by rfl) elU8 (by rfl) hm0 (by rfl) r10' bA.size (by simp<;>omega) (by unfold maxLen;simp<;>omega) ?_;intro v5 w5 o5 g5 _;have b5:=bA.grown g5 bA.size hlo;obtain ⟨a5,c5,rfl,_⟩:=o5.form' vl.length (by simp))
    go_ret2
    exact ⟨a5,_,c5,rfl,b5,o5.row⟩
   ·have hs32:sl.length=32:=by rcases St.out.hs with h|h<;>omega
    obtain rfl:n9=32:=by omega
    have hne:sl≠[]:=fun e=>by rw [e] at hs32;simp at hs32
    have hR:=St.out.h1 hne
    have hp16:=St.out.h16
    have hne0:=hne
    clear h9 hne r10 l10
    obtain ⟨b9,o9,rfl,hr9⟩:=bytes_range r9 (by omega)
    by_cases hlt:i<cn
    ·have hki:(i:Int)<(cn:Int):=by omega
     have hne2:((i:Int)==(cn:Int))=false:=by rw [beq_eq_false_iff_ne];omega
     have hl1:i<ps.length:=by rw [Hcn.out];exact hlt
     have hat:(ps.map (·.2))[i]?=some (ps[i]).2:=by rw [List.getElem?_map,List.getElem?_eq_getElem hl1];rfl
     have hcv0:=hc.2 _ (List.getElem_mem hl1)
     have hct:=HNs.out _ (List.getElem_mem hl1)
     obtain ⟨bc,oc,rfl,hcc0⟩:=RowOf.cells (f:=tcell) (size:=1) (fun _=>rfl) hc.1 i hl1
     obtain ⟨y,hy⟩:∃ y,y=ps[i]:=⟨_,rfl⟩
     rw [←hy] at hat hcv0 hct hcc0
     obtain ⟨cv,ct⟩:=y
     change Bytes w cv ct at hcv0
     change ct.length≤1048576 at hct
     change (ps.map (·.2))[i]?=some ct at hat
     have hcc:w.cell? ⟨bc,oc+i,none⟩=some cv:=by simpa using hcc0 0 cv rfl
     obtain ⟨ac,qc0,rfl,_,_⟩:=hcv0.form
     obtain ⟨ctn,hctn⟩:∃ n,n=ct.length:=⟨_,rfl⟩
     rw [←hctn] at hcc hcv0 hct
     have hcc1:wr.cell? ⟨bc,oc+i,none⟩=some (.slice ac ctn qc0):=by rw [hbel.cell (p:=⟨bc,oc+i,none⟩) (World.block_lt_of_cell? w _ hcc)];exact hcc
     have hcvr:Bytes wr (.slice ac ctn qc0) ct:=hcv0.below hbel
     obtain ⟨st4,st5⟩:=stc_step St.out hne0 hat (by rw [←hctn];exact hct)
     rw [List.length_map,Hcn.out] at st5
     have hs35:∀ x,(Instr.arrayAt 30 (.slice (some ⟨b9,o9,none⟩) 32 c9)).run Tryz.prog x=.ok (.pointer (some ⟨b9,o9,none⟩)) x:=fun x=>run_arrayAt (P:=Tryz.prog) (t:=30) (e:=5) (n:=32) (by kernel_rfl) (some ⟨b9,o9,none⟩) 32 c9 (Nat.le_refl _) x
     have cs:=fun u (hu:Bytes u (.slice ac ctn qc0) ct)=>sum_any ac ctn qc0 ct hctn.symm u hu
     have cr:=fun u (hu:Bytes u (.slice ac ctn qc0) ct)=>rread_any ac ctn qc0 ct hctn.symm hct u hu
     have qn:=run_ne_h (sumB ct) sl (sumB_len ct) hs32
     have gn:=guard_ne_h (sumB ct) sl
     obtain ⟨bq,hbq⟩:∃ bq,bq=(sumB ct==sl):=⟨_,rfl⟩
     simp only [←hbq] at qn
     have hlS:((sumB ct).map u8v).length=32:=by rw [List.length_map,sumB_len]
     have hlL:(sl.map u8v).length=32:=by rw [List.length_map,hs32]
     obtain ⟨SB,hSB⟩:∃ SB,SB=(sumB ct).map u8v:=⟨_,rfl⟩
     obtain ⟨SL,hSL⟩:∃ SL,SL=sl.map u8v:=⟨_,rfl⟩
     rw [←hSB] at hlS
     rw [←hSL] at hlL hr9
     simp only [←hSB] at cs qn gn
     simp only [←hSL] at qn gn
     have Cs:=Lib.hid cs
     have Cr:=Lib.hid cr
     have Qn:=Lib.hid qn
     have Gn:=Lib.hid gn
     have HlL:=Lib.hid hlL
     have Hr9:=Lib.hid hr9
     have Hbq:=Lib.hid hbq
     have St4:=Lib.hid st4
     have St5:=Lib.hid st5
     have l8:=r8.fits.1
     have Hl8:=Lib.hid l8.symm
     have Hp16:=Lib.hid hp16
     have k1:=fun u:Ext wr=>u.cell hcc1
     clear l8 l9 cs cr qn gn hlL hr9 hSB hSL hlS hbq st4 st5 hR hs32 hy hcc0 hat hcc hctn St r9 hp16
     go_wp2_with fail
     refine wp_region_typed wr 9 (by kernel_rfl) (by kernel_rfl) (Below.refl _ _) ?_;simp only [List.take_succ_cons,List.take_zero,List.take_nil]
     iterate 4 (refine wpX_step (by rfl) (fun K hK=>?_);go_simp;first|(refine hK _ ?_;clear hK K)|(apply Exists.intro;refine ⟨fun _=>?_,hK _ ?_⟩;fail;clear hK K))
     (refine wpX_step (by rfl) (fun K hK=>?_);go_simp;first|(refine hK _ ?_;clear hK K)|(apply Exists.intro;refine ⟨fun _=>?_,hK _ ?_⟩;exact Cs.out _ (Ext.row _ hcvr);clear hK K))
     iterate 2 (refine wpX_step (by rfl) (fun K hK=>?_);go_simp;first|(refine hK _ ?_;clear hK K)|(apply Exists.intro;refine ⟨fun _=>?_,hK _ ?_⟩;fail;clear hK K))
     (refine wpX_step (by rfl) (fun K hK=>?_);rw [if_pos (by rfl)];refine ⟨_,fun u=>const_loadm _ (.tmp 35) (by rfl) _ _ (by rfl) aggHash' HlL.out (rangeAt.ext Hr9.out u),hK _ ?_⟩;clear hK K;simp only [Act.put,List.setIfInBounds_toArray,List.set_cons_zero,List.set_cons_succ])
     (refine wpX_step (by rfl) (fun K hK=>?_);rw [if_pos (by rfl)];refine ⟨_,fun u=>const_neq _ _ _ _ (by rfl) (by rfl) (by rfl) (fun o1 o2 w1=>Gn.out o1 o2 w1) (fun w1=>Qn.out w1),hK _ ?_⟩;clear hK K;simp only [Act.put,List.setIfInBounds_toArray,List.set_cons_zero,List.set_cons_succ])
     refine wpX_nil ?_
     intro u2 hb2
     simp only [List.reverse_nil,forallRel]
     change wpList _ _ _ [] _ _
     have hb2w:=Below.then hbel hb2
     have r82:=r8.below hb2
     have hcv2:=hcvr.below hb2
     have hcc2:u2.cell? ⟨bc,oc+i,none⟩=some (.slice ac ctn qc0):=by rw [hb2.cell (p:=⟨bc,oc+i,none⟩) (World.block_lt_of_cell? wr _ hcc1)];exact hcc1
     clear k1 hs35 hcc1 r8
     cases bq with
     | false =>
      have hR2:=St4.out (beq_eq_false_iff_ne.1 Hbq.out.symm)
      subst hR2
      go_wp2_with fail
      go_ret2
      exact ⟨none,0,0,rfl,hb2w,RowOf.nil b8 1 _⟩
     | true =>
      have St6:=St5.out (beq_iff_eq.1 Hbq.out.symm)
      cases hrd:rdB ct with
      | none =>
       have hR2:=St6.1 hrd
       subst hR2
       rw [hrd] at Cr
       have cr2:∀ u:World,Bytes u (.slice ac ctn qc0) ct→Calls Tryz.prog 98 #[.slice ac ctn qc0] u fun e w'=>Below u.heap.size u w'∧e=.returned (.tuple #[.agg #[.int .i64 0,.slice none 0 0,.slice none 0 0,.slice none 0 0],.int .i64 1]):=Cr.out
       have Cr2:=Lib.hid cr2
       clear St6 St5 St4 hrd cr2
       go_wp2_with (first
        |(go_at_call 98;(with_reducible refine (Cr2.out _ hcv2).mono ?_);rintro e w3 ⟨b3,rfl⟩;have hb3:=Below.then hb2w b3;have bA:Below w3.heap.size w3 (w3.alloc (.cells #[.int .i64 0,.slice none 0 0,.slice none 0 0,.slice none 0 0] 133)):=(Below.refl _ _).alloc (Nat.le_refl _) _)
        |((with_reducible show wpList _ _ _ (⟨none,.store _ _ (.tmp 44),_,_,_,_⟩::_) _ _);refine wpList_storeA (o:=⟨none,_,_,_,_,_⟩) (by rfl) 133 (.tmp 12) (.tmp 44) (by rfl) w3.heap.size [.int .i64 0,.slice none 0 0,.slice none 0 0,.slice none 0 0] (by rfl) (by rfl) aggShape (Blk.new w3 133 zsh) (by rfl) (by rfl) (by intro u hu;simp at hu;rcases hu with rfl|rfl<;>rfl) bA (Nat.le_refl _) ?_;intro w4 h12 b4 _;have hb4:=Below.then hb3 b4))
       go_ret2
       exact ⟨none,0,0,rfl,hb4,RowOf.nil b8 1 _⟩
      | some s =>
       obtain ⟨st7,st8⟩:=St6.2 s hrd
       rw [hrd] at Cr
       have ho:=(rd_le hrd (by have:=hcv2.fits.1;omega)).1
       obtain ⟨kd,pp,vb,ts⟩:=s
       dsimp only at st7
       have cr2:∀ u:World,Bytes u (.slice ac ctn qc0) ct→Calls Tryz.prog 98 #[.slice ac ctn qc0] u fun e w'=>Below u.heap.size u w'∧∃ (pa:Option Addr) (pc:Nat) (va:Option Addr) (vc:Nat) (ka:Option Addr) (kc:Nat) (qs:List (Value × List UInt8)),e=.returned (.tuple #[.agg #[.int .i64 kd,.slice pa pp.length pc,.slice va vb.length vc,.slice ka ts.length kc],.int .i64 0]) ∧
        Bytes w' (.slice pa pp.length pc) pp∧Bytes w' (.slice va vb.length vc) vb∧Texts w' (.slice ka ts.length kc) qs∧qs.map (·.2)=ts:=Cr.out
       have Cr2:=Lib.hid cr2
       have Ho:=Lib.hid ho
       have St8:=Lib.hid st8
       obtain ⟨LP,hLP⟩:∃ L,L=pp.length:=⟨_,rfl⟩
       obtain ⟨LV,hLV⟩:∃ L,L=vb.length:=⟨_,rfl⟩
       obtain ⟨LT,hLT⟩:∃ L,L=ts.length:=⟨_,rfl⟩
       by_cases hz:i≠0∧kd=0
       ·have hR2:=st7 hz
        subst hR2
        obtain ⟨hz1,rfl⟩:=hz
        have hgt:(0:Int)<(i:Int):=by omega
        clear St6 St5 St4 hrd st7 st8 ho cr2 hz1 Cr
        go_wp2_with (first
         |(go_at_call 98;(with_reducible refine (Cr2.out _ hcv2).mono ?_);rintro e w3 ⟨b3,pa,pc,va,vc,ka,kc,qs,rfl,hp3,hv3,ht3,hqs⟩;have hb3:=Below.then hb2w b3;have bA:Below w3.heap.size w3 (w3.alloc (.cells #[.int .i64 0,.slice none 0 0,.slice none 0 0,.slice none 0 0] 133)):=(Below.refl _ _).alloc (Nat.le_refl _) _)
         |((with_reducible show wpList _ _ _ (⟨none,.store _ _ (.tmp 44),_,_,_,_⟩::_) _ _);refine wpList_storeA (o:=⟨none,_,_,_,_,_⟩) (by rfl) 133 (.tmp 12) (.tmp 44) (by rfl) w3.heap.size [.int .i64 0,.slice pa pp.length pc,.slice va vb.length vc,.slice ka ts.length kc] (by rfl) (by rfl) aggShape (Blk.new w3 133 zsh) (by rfl) (by rfl) (by intro u hu;simp at hu;rcases hu with rfl|rfl|rfl|rfl<;>rfl) bA (Nat.le_refl _) ?_;intro w4 h12 b4 _;have hb4:=Below.then hb3 b4;have hc0:w4.cell? ⟨w3.heap.size,0,none⟩=some (.int .i64 0):=(h12.cell 0).trans rfl))
        go_ret2
        exact ⟨none,0,0,rfl,hb4,RowOf.nil b8 1 _⟩
       ·have st9:=St8.out hz
        have St9:=Lib.hid st9
        clear st7 st8 ho cr2 Cr
        have cn0:=fun (u:World) (pa:Option Addr) (pc:Nat) (va:Option Addr) (vc:Nat) (ka:Option Addr) (kc:Nat) (qs:List (Value × List UInt8)) (hp:Bytes u (.slice pa pp.length pc) pp) (hv:Bytes u (.slice va vb.length vc) vb) (ht:Texts u (.slice ka ts.length kc) qs) (hqs:qs.map (·.2)=ts) (hq:Bytes u (.slice a8 n8 c8) pl) =>
         next_any kd pa va ka a8 pp.length pc vb.length vc ts.length kc n8 c8 pp vb pl qs rfl rfl (by rw [←hqs];simp) Hl8.out.symm.symm u hp hv ht hq (by rw [hqs];exact Ho.out) Hp16.out
        have Cn0:=Lib.hid cn0
        have Hhin:=Lib.hid hin
        clear St6 St5 St4 hrd cn0
        have hcase:(kd≠0∨(kd=0∧i=0)):=by
         by_cases hk0:kd=0
         ·exact .inr ⟨hk0,Classical.byContradiction fun hi0=>hz ⟨hi0,hk0⟩⟩
         ·exact .inl hk0
        obtain ⟨z2,hz2⟩:∃ z2,z2=decide ((nxtP (kd,pp,vb,ts) pl).1=[]∧i+1<cn):=⟨_,rfl⟩
        have Hz2:=Lib.hid hz2
        clear hz hz2
        rcases hcase with hk0|⟨rfl,hi0⟩
        ·have hk1:(kd==0)=false:=by rw [beq_eq_false_iff_ne];exact hk0
         go_wp2_with (first
          |(go_at_call 98;(with_reducible refine (Cr2.out _ hcv2).mono ?_);rintro e w3 ⟨b3,pa,pc,va,vc,ka,kc,qs,rfl,hp3,hv3,ht3,hqs⟩;have hb3:=Below.then hb2w b3;have bA:Below w3.heap.size w3 (w3.alloc (.cells #[.int .i64 0,.slice none 0 0,.slice none 0 0,.slice none 0 0] 133)):=(Below.refl _ _).alloc (Nat.le_refl _) _)
          |((with_reducible show wpList _ _ _ (⟨none,.store _ _ (.tmp 44),_,_,_,_⟩::_) _ _);refine wpList_storeA (o:=⟨none,_,_,_,_,_⟩) (by rfl) 133 (.tmp 12) (.tmp 44) (by rfl) w3.heap.size [.int .i64 kd,.slice pa pp.length pc,.slice va vb.length vc,.slice ka ts.length kc] (by rfl) (by rfl) aggShape (Blk.new w3 133 zsh) (by rfl) (by rfl) (by intro u hu;simp at hu;rcases hu with rfl|rfl|rfl|rfl<;>rfl) bA (Nat.le_refl _) ?_;intro w4 h12 b4 _;have hb4:=Below.then hb3 b4;have hc0:w4.cell? ⟨w3.heap.size,0,none⟩=some (.int .i64 kd):=(h12.cell 0).trans rfl;have hq4:=r82.below (b3.trans (b4.mono b3.size)))
          |(refine wpList_loadA (o:=⟨some 58,_,_,_,_,_⟩) (by rfl) 133 (.tmp 12) (by rfl) w3.heap.size (by rfl) aggShape h12 (by rfl) ?_)
          |(go_at_call 99;(with_reducible refine (Cn0.out _ pa pc va vc ka kc qs (hp3.below b4) (hv3.below b4) (ht3.below b4) hqs hq4).mono ?_);rintro e w5 ⟨a1,c1,a2,c2,a3,c3,rfl,b5,n1,n2,n3⟩;have hb5:=Below.then hb4 b5))
         ·rename_i q1 q2
          have hR2:=St9.out.1 q1 (by omega)
          subst hR2
          go_ret2
          exact ⟨none,0,0,rfl,hb5,RowOf.nil b8 1 _⟩
         ·rename_i q1 q2
          rw [hqs] at n1 n2 n3
          have n1':Bytes w5 (.slice a1 0 c1) (nxtP (kd,pp,vb,ts) pl).1:=by rw [q1] at n1 ⊢;exact n1
          refine ⟨⟨i+1,_,_,_,a2,_,c2,a1,_,c1,a3,_,c3,?_,rfl,rfl,rfl,rfl,hb5,n2,n1',n3,Lib.hid (St9.out.2 (fun e=>by omega))⟩,?_⟩
          ·omega
          ·show cn+1 - ((i:Int)+1).toNat<cn+1 - (i:Int).toNat
           omega
         ·rename_i q1
          rw [hqs] at n1 n2 n3
          refine ⟨⟨i+1,_,_,_,a2,_,c2,a1,_,c1,a3,_,c3,?_,rfl,rfl,rfl,rfl,hb5,n2,n1,n3,Lib.hid (St9.out.2 (fun e=>q1 e.1))⟩,?_⟩
          ·omega
          ·show cn+1 - ((i:Int)+1).toNat<cn+1 - (i:Int).toNat
           omega
        ·have hi1:¬ (0:Int)<(i:Int):=by omega
         clear hi0
         go_wp2_with (first
          |(go_at_call 98;(with_reducible refine (Cr2.out _ hcv2).mono ?_);rintro e w3 ⟨b3,pa,pc,va,vc,ka,kc,qs,rfl,hp3,hv3,ht3,hqs⟩;have hb3:=Below.then hb2w b3;have bA:Below w3.heap.size w3 (w3.alloc (.cells #[.int .i64 0,.slice none 0 0,.slice none 0 0,.slice none 0 0] 133)):=(Below.refl _ _).alloc (Nat.le_refl _) _)
          |((with_reducible show wpList _ _ _ (⟨none,.store _ _ (.tmp 44),_,_,_,_⟩::_) _ _);refine wpList_storeA (o:=⟨none,_,_,_,_,_⟩) (by rfl) 133 (.tmp 12) (.tmp 44) (by rfl) w3.heap.size [.int .i64 0,.slice pa pp.length pc,.slice va vb.length vc,.slice ka ts.length kc] (by rfl) (by rfl) aggShape (Blk.new w3 133 zsh) (by rfl) (by rfl) (by intro u hu;simp at hu;rcases hu with rfl|rfl|rfl|rfl<;>rfl) bA (Nat.le_refl _) ?_;intro w4 h12 b4 _;have hb4:=Below.then hb3 b4;have hc0:w4.cell? ⟨w3.heap.size,0,none⟩=some (.int .i64 0):=(h12.cell 0).trans rfl;have hq4:=r82.below (b3.trans (b4.mono b3.size)))
          |(refine wpList_loadA (o:=⟨some 58,_,_,_,_,_⟩) (by rfl) 133 (.tmp 12) (by rfl) w3.heap.size (by rfl) aggShape h12 (by rfl) ?_)
          |(go_at_call 99;(with_reducible refine (Cn0.out _ pa pc va vc ka kc qs (hp3.below b4) (hv3.below b4) (ht3.below b4) hqs hq4).mono ?_);rintro e w5 ⟨a1,c1,a2,c2,a3,c3,rfl,b5,n1,n2,n3⟩;have hb5:=Below.then hb4 b5))
         ·rename_i q1 q2
          have hR2:=St9.out.1 q1 (by omega)
          subst hR2
          go_ret2
          exact ⟨none,0,0,rfl,hb5,RowOf.nil b8 1 _⟩
         ·rename_i q1 q2
          rw [hqs] at n1 n2 n3
          have n1':Bytes w5 (.slice a1 0 c1) (nxtP (0,pp,vb,ts) pl).1:=by rw [q1] at n1 ⊢;exact n1
          refine ⟨⟨i+1,_,_,_,a2,_,c2,a1,_,c1,a3,_,c3,?_,rfl,rfl,rfl,rfl,hb5,n2,n1',n3,Lib.hid (St9.out.2 (fun e=>by omega))⟩,?_⟩
          ·omega
          ·show cn+1 - ((i:Int)+1).toNat<cn+1 - (i:Int).toNat
           omega
    ·obtain rfl:i=cn:=by omega
     have hR2:R=([],5):=by rw [hR,List.drop_of_length_le (by rw [List.length_map,Hcn.out];exact Nat.le_refl _)];rfl
     subst hR2
     have heq:((i:Int)==(i:Int))=true:=beq_self_eq_true _
     clear l9 hs32 hR St
     go_wp2_with fail
     go_ret2
     exact ⟨none,0,0,rfl,hbel,RowOf.nil b8 1 _⟩
end Go.Proofs.YtcgpjceopnfahaaGreat
