/- root.shape of a road. -/
import Derived.Test.YtcgpjceopnfahaaGreatWorldChecksK31
set_option linter.unusedSimpArgs false
set_option linter.unusedVariables false
set_option maxHeartbeats 4000000
set_option maxRecDepth 100000
namespace Go.Proofs.YtcgpjceopnfahaaGreat
open Go.RowKit
theorem shape_road (ta:Option Addr)(tn tc:Nat)(ka:Option Addr)(kn kc:Nat)(ks:List Itm)(hkn:ks.length=kn)(hs:kn≤1048576)(hl8:∀ k∈ks,(itt k).length≤1048576)(h2:kn=2)(hu:unE ((ks.map itt)[0]?.getD [])=0)(hf:unLeaf ((ks.map itt)[0]?.getD [])=false)(w:World)(hk:RowOf icells 3 w (.slice ka kn kc) ks)(hi:∀ k∈ks,IsItm w k) :
  Calls Tryz.prog 125 #[.agg #[.bool true,.slice ta tn tc,.slice ka kn kc]] w (ShPost (shpP (.lst (ks.map erI))) w):=by
 obtain ⟨w1,hw1⟩:∃ w1,w1=(w.alloc (.cells #[.bool true,.slice ta tn tc,.slice ka kn kc] 77)).alloc (.cells #[.int .i64 0,.slice none 0 0,.slice none 0 0,.slice none 0 0] 133):=⟨_,rfl⟩
 have F1:ShW w [.bool true,.slice ta tn tc,.slice ka kn kc] zsh w1:=by rw [hw1];exact ShW.start w _ _ _
 have Hw1:=Lib.hid hw1
 have hnone:∀ (i:Nat) (k:Itm),ks[i]?=some k→itl k=true→shpP (.lst (ks.map erI))=none:=fun i k h1 h2=>by simp only [shpP,allT_lst h1 h2]
 have h17f:((kn:Int)==17)=false:=by rw [beq_eq_false_iff_ne];omega
 have h2t:((kn:Int)==2)=true:=by rw [beq_iff_eq];omega
 have i0:(0:Int)<(kn:Int):=by omega
 have i1:(1:Int)<(kn:Int):=by omega
 have i0n:0<kn:=by omega
 have i1n:1<kn:=by omega
 have H2:=Lib.hid h2
 have hall:(∀ (i:Nat) (k:Itm),ks[i]?=some k→itl k=false)→shpP (.lst (ks.map erI))=some (2,unP ((ks.map itt)[0]?.getD []),[],(ks.map itt).drop 1):=fun h=>by
  simp only [shpP,allT_texts h,List.length_map,hkn]
  rw [if_neg (by omega),if_pos h2,if_pos hu,if_neg (by rw [hf];simp)]
 have Hlen:=Lib.hid hl8
 have Hu:=Lib.hid hu
 have Hf:=Lib.hid hf
 clear h2 hu hf hl8
 obtain ⟨O,hO⟩:∃ O,O=shpP (.lst (ks.map erI)):=⟨_,rfl⟩
 rw [←hO] at hnone hall
 rw [←hO]
 have Hnone:=Lib.hid hnone
 have Hall:=Lib.hid hall
 have Hkn:=Lib.hid hkn
 have Hi:=Lib.hid hi
 clear hw1 hnone hall hkn hi hO
 go_enter Tryz.func125,Tryz.ntmps125
 go_wp2_with fail
 rw [←Hw1.out]
 go_loopw [22] (fun ix wr=>∃ k:Nat,k≤kn∧ix=.int .i64 (k:Int)∧ShW w [.bool true,.slice ta tn tc,.slice ka kn kc] zsh wr∧Hid (∀ (j:Nat) (x:Itm),j<k→ks[j]?=some x→itl x=false)) (fun ix _=>kn - (intOf ix).toNat)
 case atStart=>exact ⟨0,by omega,rfl,F1,Lib.hid (fun j x hj=>by omega)⟩
 case round =>
  clear F1
  obtain ⟨k,hkk,rfl,F,Hd⟩:=hrel
  have cx2:wr.cell? ⟨w.heap.size,2,none⟩=some (.slice ka kn kc):=F.hx.cell 2
  by_cases hlt:k<kn
  ·have hki:(k:Int)<(kn:Int):=by omega
   have hl1:k<ks.length:=by rw [Hkn.out];exact hlt
   obtain ⟨b,off,rfl,hr⟩:=RowOf.range icells_len (hk.below F.hb) k hl1
   have hI:IsItm wr ks[k]:=(Hi.out _ (List.getElem_mem hl1)).kept F.hb
   have hks:ks[k]?=some ks[k]:=List.getElem?_eq_getElem hl1
   obtain ⟨kid,hkid⟩:∃ x,x=ks[k]:=⟨_,rfl⟩
   rw [←hkid] at hr hI hks
   obtain ⟨l2,tv2,t2,kv2,ks2⟩:=kid
   obtain ⟨ta2,tc2,rfl,_,_⟩:=hI.inv.1.form
   obtain ⟨ka2,kc2,rfl,_,_⟩:=hI.inv.2.1.form
   obtain ⟨tn2,htn2⟩:∃ tn2,tn2=t2.length:=⟨_,rfl⟩
   obtain ⟨kn2,hkn2⟩:∃ kn2,kn2=ks2.length:=⟨_,rfl⟩
   rw [←htn2,←hkn2] at hr hI hks
   change wr.rangeAt b (off+k*3) [.bool l2,.slice ta2 tn2 tc2,.slice ka2 kn2 kc2] at hr
   have F2:=F.kept ((Below.refl wr.heap.size wr).alloc (Nat.le_refl _) (.cells #[.bool l2,.slice ta2 tn2 tc2,.slice ka2 kn2 kc2] 77))
   cases l2 with
   | true =>
    have hON:O=none:=Hnone.out k _ hks rfl
    subst hON
    clear hkid hI htn2 hkn2 hks F
    go_wp2_with (first
     |(refine wpList_load_mid (op:=⟨some 25,_,_,_,_,_⟩) (by rfl) 77 (.tmp 24) (by rfl) b (off+k*3) (by rfl) [.bool true,.slice ta2 tn2 tc2,.slice ka2 kn2 kc2] _ hr Tryz.underlying77 rfl (by kernel_rfl) ?_)
     |(refine wpList_loadA (o:=⟨some 28,_,_,_,_,_⟩) (by rfl) 133 (.tmp 2) (by rfl) (w.heap.size+1) (by rfl) aggShape F2.hz (by rfl) ?_)
     |((with_reducible show wpList _ _ _ (⟨none,.store _ _ (.tmp 28),_,_,_,_⟩::_) _ _);refine wpList_storeA (o:=⟨none,_,_,_,_,_⟩) (by rfl) 133 (.tmp 2) (.tmp 28) (by rfl) (w.heap.size+1) zsh (by rfl) (by rfl) aggShape F2.hz (by rfl) (by rfl) (by intro u hu;simp [zsh] at hu;rcases hu with rfl|rfl<;>rfl) F2.hb (by omega) ?_;intro w5 h5 hbel5 _))
    exact bodyPost_ret (v:=.tuple #[.agg #[.int .i64 0,.slice none 0 0,.slice none 0 0,.slice none 0 0],.bool false]) (results_blk_tmp rfl _ _ (w.heap.size+1) aggShape h5 rfl rfl rfl) rfl ⟨hbel5,0,none,0,0,none,0,0,none,0,0,rfl⟩
   | false =>
    have hd2:∀ (j:Nat) (x:Itm),j<k+1→ks[j]?=some x→itl x=false:=fun j x hj hx=>by
     rcases Nat.lt_or_ge j k with h|h
     ·exact Hd.out j x h hx
     ·obtain rfl:j=k:=by omega
      rw [hks] at hx
      cases hx
      rfl
    have Hd2:=Lib.hid hd2
    clear hkid hI htn2 hkn2 hks F hd2
    go_wp2_with (refine wpList_load_mid (op:=⟨some 25,_,_,_,_,_⟩) (by rfl) 77 (.tmp 24) (by rfl) b (off+k*3) (by rfl) [.bool false,.slice ta2 tn2 tc2,.slice ka2 kn2 kc2] _ hr Tryz.underlying77 rfl (by kernel_rfl) ?_)
    go_roundw
    case rel=>exact ⟨k+1,by omega,by go_num,F2,Hd2⟩
    case measure=>simp [intOf];omega
  ·obtain rfl:kn=k:=by omega
   have hOO:=Hall.out (fun i x hx=>Hd.out i x (by have:=(List.getElem?_eq_some_iff.1 hx).1;have:=Hkn.out;omega) hx)
   have hlen:ks.length=2:=Hkn.out.trans H2.out
   obtain ⟨x0,x1,rfl⟩:∃ x0 x1,ks=[x0,x1]:=by
    match ks,hlen with
    | [x0,x1],_=>exact ⟨x0,x1,rfl⟩
   obtain ⟨l0,tv0,t0,kv0,ks0⟩:=x0
   obtain ⟨l1,tv1,t1,kv1,ks1⟩:=x1
   have r0:Bytes w tv0 t0:=(Hi.out _ List.mem_cons_self).inv.1
   have r1:Bytes w tv1 t1:=(Hi.out _ (List.mem_cons_of_mem _ List.mem_cons_self)).inv.1
   obtain ⟨b,off,rfl,hc0⟩:=RowOf.cells (f:=icells) (size:=3) icells_len hk 0 (by simp)
   have hc00:w.cell? ⟨b,off+1,none⟩=some tv0:=by simpa using hc0 1 tv0 rfl
   obtain ⟨b',off',e',hc1⟩:=RowOf.cells (f:=icells) (size:=3) icells_len hk 1 (by simp)
   simp only [Option.some.injEq,Addr.mk.injEq,and_true] at e'
   obtain ⟨rfl,rfl⟩:=e'
   have hc11:w.cell? ⟨b,off+3+1,none⟩=some tv1:=by have:=hc1 1 tv1 rfl;rw [show off+(1*3+1)=off+3+1 from by omega] at this;exact this
   have hblt:=World.block_lt_of_cell? w _ hc00
   have hq0:wr.cell? ⟨b,off+1,none⟩=some tv0:=by rw [F.hb.cell (p:=⟨b,off+1,none⟩) hblt];exact hc00
   obtain ⟨a0,q0,rfl,_,_⟩:=r0.form
   obtain ⟨a1,q1,rfl,_,_⟩:=r1.form
   have hm0:t0.length≤1048576:=Hlen.out _ List.mem_cons_self
   have un:∀ u,Bytes u (.slice a0 t0.length q0) t0→Calls Tryz.prog 148 #[.slice a0 t0.length q0] u _:=fun u hu=>untag_any a0 t0.length q0 t0 rfl u hu (by omega)
   have hu0:unE t0=0:=Hu.out
   have hf0:unLeaf t0=false:=Hf.out
   rw [hu0,hf0] at un
   have Un:=Lib.hid un
   have hOO':O=some (2,unP t0,[],[t1]):=hOO
   subst hOO'
   clear un hc0 hc1 hc00 hu0 hf0 hm0 hOO
   have hz1:wr.cell? ⟨w.heap.size+1,1,none⟩=some (.slice none 0 0):=F.hz.cell 1
   go_wp2_with (go_at_call 148;(with_reducible refine (Un.out wr (r0.below F.hb)).mono ?_);rintro e w3 ⟨v3,rfl,r3,b3⟩;have F3:=F.kept b3;obtain ⟨p3,pc3,rfl,_,_⟩:=r3.form;have hz31:w3.cell? ⟨w.heap.size+1,1,none⟩=some (.slice none 0 0):=F3.hz.cell 1;have hf31:=F3.hz.free 1;have F4:=F3.set 1 (.slice p3 (unP t0).length pc3);have r4:=F3.bytes (by intro x hx k;simp [zsh] at hx;rcases hx with rfl|rfl<;>simp) 1 (.slice p3 (unP t0).length pc3) r3)
   have hqb:Below w.heap.size w (w3.setCell ⟨w.heap.size+1,1,none⟩ (.slice p3 (unP t0).length pc3)):=F4.hb
   have hq1:(w3.setCell ⟨w.heap.size+1,1,none⟩ (.slice p3 (unP t0).length pc3)).cell? ⟨b,off+3+1,none⟩=some (.slice a1 t1.length q1):=by rw [hqb.cell (p:=⟨b,off+3+1,none⟩) hblt];exact hc11
   obtain ⟨w4,hw4⟩:∃ w4,w4=w3.setCell ⟨w.heap.size+1,1,none⟩ (.slice p3 (unP t0).length pc3):=⟨_,rfl⟩
   rw [←hw4] at F4 r4 hq1
   try rw [←hw4]
   clear hqb hw4 F3 hz31 hf31 hz1 r3 cx2 F hq0 hc11 b3
   refine wp_region_via (fun aa bb w'=>∃ gb:Nat,bb=((((((((aa.put (some 84) (.pointer (some ⟨w.heap.size,2,none⟩))).put (some 85) (.slice (some ⟨b,off,none⟩) kn kc)).put (some 86) (.pointer (some ⟨b,off+3,none⟩))).put (some 87) (.pointer (some ⟨b,off+3+1,none⟩))).put (some 88) (.slice a1 t1.length q1)).put (some 89) (.slice (some ⟨gb,0,none⟩) 1 1)).put (some 90) (.pointer (some ⟨w.heap.size+1,0,none⟩))).put (some 91) (.pointer (some ⟨w.heap.size+1,3,none⟩)))∧w.heap.size+1<gb∧ShW w [.bool true,.slice ta tn tc,.slice (some ⟨b,off,none⟩) kn kc] [.int .i64 2,(.slice p3 (unP t0).length pc3),.slice none 0 0,.slice (some ⟨gb,0,none⟩) 1 1] w'∧Bytes w' (.slice p3 (unP t0).length pc3) (unP t0)∧RowOf tcell 1 w' (.slice (some ⟨gb,0,none⟩) 1 1) [((.slice a1 t1.length q1),t1)]) ?_ ?_
   ·refine wp_region_h ((fun u=>CellAt ⟨w.heap.size,2,none⟩ (.slice (some ⟨b,off,none⟩) kn kc) u∧CellAt ⟨b,off+3+1,none⟩ (.slice a1 t1.length q1) u)) (by kernel_rfl) ?_;intro u0 hu0;simp only [List.length_cons,List.length_nil,Nat.reduceAdd,List.replicate_succ,List.replicate_zero]
    have F0:ShW w [.bool true,.slice ta tn tc,.slice (some ⟨b,off,none⟩) kn kc] (zsh.set 1 (.slice p3 (unP t0).length pc3)) u0:=by rw [hu0];exact F4.kept (Below.refl _ _).drew
    have q0':Bytes u0 (.slice p3 (unP t0).length pc3) (unP t0):=by rw [hu0];exact r4.kept (Below.refl _ _).drew
    have S0:(fun u=>CellAt ⟨w.heap.size,2,none⟩ (.slice (some ⟨b,off,none⟩) kn kc) u∧CellAt ⟨b,off+3+1,none⟩ (.slice a1 t1.length q1) u) u0:=⟨F0.hx.cell 2,by rw [hu0];exact hq1⟩
    have k1:∀ u:In (fun u=>CellAt ⟨w.heap.size,2,none⟩ (.slice (some ⟨b,off,none⟩) kn kc) u∧CellAt ⟨b,off+3+1,none⟩ (.slice a1 t1.length q1) u),u.val.cell? ⟨w.heap.size,2,none⟩=some (.slice (some ⟨b,off,none⟩) kn kc):=fun u=>u.held.1
    have k2:∀ u:In (fun u=>CellAt ⟨w.heap.size,2,none⟩ (.slice (some ⟨b,off,none⟩) kn kc) u∧CellAt ⟨b,off+3+1,none⟩ (.slice a1 t1.length q1) u),u.val.cell? ⟨b,off+3+1,none⟩=some (.slice a1 t1.length q1):=fun u=>u.held.2
    clear hu0 F4 r4 hq1
    (refine wpH_take 0 (by rfl) (by kernel_rfl) (by intro _ _ _ h;first|exact h|(cases h.1)) (by intro _ _ _ _ h;first|exact h|(cases h.1)) (by assumption) (fun K hK=>?_);simp only [List.setIfInBounds_toArray,List.set_cons_zero,List.set_cons_succ] at hK;go_simp;first|(refine hK _ ?_;clear hK K)|(apply Exists.intro;refine ⟨fun _=>rfl,hK _ ?_⟩;clear hK K));(refine wpH_take 1 (by rfl) (by kernel_rfl) (by intro _ _ _ h;first|exact h|(cases h.1)) (by intro _ _ _ _ h;first|exact h|(cases h.1)) (by assumption) (fun K hK=>?_);simp only [List.setIfInBounds_toArray,List.set_cons_zero,List.set_cons_succ] at hK;go_simp;first|(refine hK _ ?_;clear hK K)|(apply Exists.intro;refine ⟨fun _=>rfl,hK _ ?_⟩;clear hK K));(refine wpH_take 2 (by rfl) (by kernel_rfl) (by intro _ _ _ h;first|exact h|(cases h.1)) (by intro _ _ _ _ h;first|exact h|(cases h.1)) (by assumption) (fun K hK=>?_);simp only [List.setIfInBounds_toArray,List.set_cons_zero,List.set_cons_succ] at hK;go_simp;first|(refine hK _ ?_;clear hK K)|(apply Exists.intro;refine ⟨fun _=>rfl,hK _ ?_⟩;clear hK K));(refine wpH_take 3 (by rfl) (by kernel_rfl) (by intro _ _ _ h;first|exact h|(cases h.1)) (by intro _ _ _ _ h;first|exact h|(cases h.1)) (by assumption) (fun K hK=>?_);simp only [List.setIfInBounds_toArray,List.set_cons_zero,List.set_cons_succ] at hK;go_simp;first|(refine hK _ ?_;clear hK K)|(apply Exists.intro;refine ⟨fun _=>rfl,hK _ ?_⟩;clear hK K));(refine wpH_take 4 (by rfl) (by kernel_rfl) (by intro _ _ _ h;first|exact h|(cases h.1)) (by intro _ _ _ _ h;first|exact h|(cases h.1)) (by assumption) (fun K hK=>?_);simp only [List.setIfInBounds_toArray,List.set_cons_zero,List.set_cons_succ] at hK;go_simp;first|(refine hK _ ?_;clear hK K)|(apply Exists.intro;refine ⟨fun _=>rfl,hK _ ?_⟩;clear hK K));(refine wpH_take 6 (by rfl) (by kernel_rfl) (by intro _ _ _ h;first|exact h|(cases h.1)) (by intro _ _ _ _ h;first|exact h|(cases h.1)) (by assumption) (fun K hK=>?_);simp only [List.setIfInBounds_toArray,List.set_cons_zero,List.set_cons_succ] at hK;go_simp;first|(refine hK _ ?_;clear hK K)|(apply Exists.intro;refine ⟨fun _=>rfl,hK _ ?_⟩;clear hK K))
    clear k1 k2
    refine wpH_all [5,7] (by kernel_rfl) (by simp) ?_
    intro i hi
    simp only [List.mem_cons,List.not_mem_nil,or_false] at hi
    rcases hi with rfl|rfl
    ·have b5:Below u0.heap.size u0 (u0.alloc (.cells #[(.slice a1 t1.length q1)] 25)):=(Below.refl _ _).alloc (Nat.le_refl _) _
     have F5:=F0.kept b5
     have q5:=q0'.kept b5
     have rw5:RowOf tcell 1 (u0.alloc (.cells #[(.slice a1 t1.length q1)] 25)) (.slice (some ⟨u0.heap.size,0,none⟩) 1 1) [((.slice a1 t1.length q1),t1)]:=Row.built (f:=tcell) (size:=1) (fun _=>rfl) u0 25 [((.slice a1 t1.length q1),t1)] 1 rfl (by unfold maxLen;omega)
     have S5:(fun u=>CellAt ⟨w.heap.size,2,none⟩ (.slice (some ⟨b,off,none⟩) kn kc) u∧CellAt ⟨b,off+3+1,none⟩ (.slice a1 t1.length q1) u) (u0.alloc (.cells #[(.slice a1 t1.length q1)] 25)):=⟨F5.hx.cell 2,CellAt.below S0.2 b5⟩
     have hgb:w.heap.size+1<u0.heap.size:=F0.hz.lt
     (refine brH_of (i:=5) (by rfl) (fun K hK=>?_);simp only [List.setIfInBounds_toArray,List.set_cons_zero,List.set_cons_succ] at hK;go_simp)
     refine hK _ _ S5 ?_;clear hK K
     obtain ⟨u1,hu1⟩:∃ u1,u1=u0.alloc (.cells #[(.slice a1 t1.length q1)] 25):=⟨_,rfl⟩
     rw [←hu1] at F5 q5 rw5 S5
     rw [←hu1]
     clear hu1 b5
     have y5:u1.cell? ⟨w.heap.size+1,0,none⟩=some (.int .i64 0):=F5.hz.cell 0
     have g5:=F5.hz.free 0
     have F6:=F5.set 0 (.int .i64 2)
     have q6:=F5.bytes (by intro x hx k;simp [zsh] at hx;rcases hx with rfl|rfl|rfl<;>simp) 0 (.int .i64 2) q5
     have rw6:=rw5.grownNe (grown_cell (g:=w.heap.size+1) 0 (.int .i64 2)) (by omega)
     have S6:(fun u=>CellAt ⟨w.heap.size,2,none⟩ (.slice (some ⟨b,off,none⟩) kn kc) u∧CellAt ⟨b,off+3+1,none⟩ (.slice a1 t1.length q1) u) (u1.setCell ⟨w.heap.size+1,0,none⟩ (.int .i64 2)):=⟨F6.hx.cell 2,CellAt.grown S5.2 (grown_cell 0 _) (by simp<;>omega)⟩
     (refine wpH_only 7 (by rfl) (by kernel_rfl) (fun K hK=>?_);simp only [List.setIfInBounds_toArray,List.set_cons_zero,List.set_cons_succ] at hK;go_simp)
     refine hK _ _ S6 ?_;clear hK K
     obtain ⟨u2,hu2⟩:∃ u2,u2=u1.setCell ⟨w.heap.size+1,0,none⟩ (.int .i64 2):=⟨_,rfl⟩
     rw [←hu2] at F6 q6 rw6 S6
     rw [←hu2]
     clear hu2 y5 g5
     have hS6:=S6
     (refine wpH_take 8 (by rfl) (by kernel_rfl) (by intro _ _ _ h;first|exact h|(cases h.1)) (by intro _ _ _ _ h;first|exact h|(cases h.1)) (by assumption) (fun K hK=>?_);simp only [List.setIfInBounds_toArray,List.set_cons_zero,List.set_cons_succ] at hK;go_simp;first|(refine hK _ ?_;clear hK K)|(apply Exists.intro;refine ⟨fun _=>rfl,hK _ ?_⟩;clear hK K))
     have y6:u2.cell? ⟨w.heap.size+1,3,none⟩=some (.slice none 0 0):=F6.hz.cell 3
     have g6:=F6.hz.free 3
     have F7:=F6.set 3 (.slice (some ⟨u0.heap.size,0,none⟩) 1 1)
     have q7:=F6.bytes (by intro x hx k;simp [zsh] at hx;rcases hx with rfl|rfl|rfl<;>simp) 3 (.slice (some ⟨u0.heap.size,0,none⟩) 1 1) q6
     have rw7:=rw6.grownNe (grown_cell (g:=w.heap.size+1) 3 (.slice (some ⟨u0.heap.size,0,none⟩) 1 1)) (by omega)
     have S7:(fun u=>CellAt ⟨w.heap.size,2,none⟩ (.slice (some ⟨b,off,none⟩) kn kc) u∧CellAt ⟨b,off+3+1,none⟩ (.slice a1 t1.length q1) u) (u2.setCell ⟨w.heap.size+1,3,none⟩ (.slice (some ⟨u0.heap.size,0,none⟩) 1 1)):=⟨F7.hx.cell 2,CellAt.grown S6.2 (grown_cell 3 _) (by simp<;>omega)⟩
     (refine wpH_only 9 (by rfl) (by kernel_rfl) (fun K hK=>?_);simp only [List.setIfInBounds_toArray,List.set_cons_zero,List.set_cons_succ] at hK;go_simp)
     refine hK _ _ S7 ?_;clear hK K
     exact wpH_done (by kernel_rfl) ⟨rfl,u0.heap.size,(by simp only [Act.put,List.setIfInBounds_toArray,List.set_cons_zero,List.set_cons_succ]),hgb,F7,q7,rw7⟩
    ·have y5:u0.cell? ⟨w.heap.size+1,0,none⟩=some (.int .i64 0):=F0.hz.cell 0
     have g5:=F0.hz.free 0
     have F5:=F0.set 0 (.int .i64 2)
     have q5:=F0.bytes (by intro x hx k;simp [zsh] at hx;rcases hx with rfl|rfl|rfl<;>simp) 0 (.int .i64 2) q0'
     have S5:(fun u=>CellAt ⟨w.heap.size,2,none⟩ (.slice (some ⟨b,off,none⟩) kn kc) u∧CellAt ⟨b,off+3+1,none⟩ (.slice a1 t1.length q1) u) (u0.setCell ⟨w.heap.size+1,0,none⟩ (.int .i64 2)):=⟨F5.hx.cell 2,CellAt.grown S0.2 (grown_cell 0 _) (by simp<;>omega)⟩
     (refine brH_of (i:=7) (by rfl) (fun K hK=>?_);simp only [List.setIfInBounds_toArray,List.set_cons_zero,List.set_cons_succ] at hK;go_simp)
     refine hK _ _ S5 ?_;clear hK K
     obtain ⟨u1,hu1⟩:∃ u1,u1=u0.setCell ⟨w.heap.size+1,0,none⟩ (.int .i64 2):=⟨_,rfl⟩
     rw [←hu1] at F5 q5 S5
     rw [←hu1]
     clear hu1 y5 g5
     have b6:Below u1.heap.size u1 (u1.alloc (.cells #[(.slice a1 t1.length q1)] 25)):=(Below.refl _ _).alloc (Nat.le_refl _) _
     have F6:=F5.kept b6
     have q6:=q5.kept b6
     have rw6:RowOf tcell 1 (u1.alloc (.cells #[(.slice a1 t1.length q1)] 25)) (.slice (some ⟨u1.heap.size,0,none⟩) 1 1) [((.slice a1 t1.length q1),t1)]:=Row.built (f:=tcell) (size:=1) (fun _=>rfl) u1 25 [((.slice a1 t1.length q1),t1)] 1 rfl (by unfold maxLen;omega)
     have S6:(fun u=>CellAt ⟨w.heap.size,2,none⟩ (.slice (some ⟨b,off,none⟩) kn kc) u∧CellAt ⟨b,off+3+1,none⟩ (.slice a1 t1.length q1) u) (u1.alloc (.cells #[(.slice a1 t1.length q1)] 25)):=⟨F6.hx.cell 2,CellAt.below S5.2 b6⟩
     have hgb:w.heap.size+1<u1.heap.size:=F5.hz.lt
     (refine wpH_only 5 (by rfl) (by kernel_rfl) (fun K hK=>?_);simp only [List.setIfInBounds_toArray,List.set_cons_zero,List.set_cons_succ] at hK;go_simp)
     refine hK _ _ S6 ?_;clear hK K
     obtain ⟨u2,hu2⟩:∃ u2,u2=u1.alloc (.cells #[(.slice a1 t1.length q1)] 25):=⟨_,rfl⟩
     rw [←hu2] at F6 q6 rw6 S6
     rw [←hu2]
     clear hu2 b6
     have hS6:=S6
     (refine wpH_take 8 (by rfl) (by kernel_rfl) (by intro _ _ _ h;first|exact h|(cases h.1)) (by intro _ _ _ _ h;first|exact h|(cases h.1)) (by assumption) (fun K hK=>?_);simp only [List.setIfInBounds_toArray,List.set_cons_zero,List.set_cons_succ] at hK;go_simp;first|(refine hK _ ?_;clear hK K)|(apply Exists.intro;refine ⟨fun _=>rfl,hK _ ?_⟩;clear hK K))
     have y6:u2.cell? ⟨w.heap.size+1,3,none⟩=some (.slice none 0 0):=F6.hz.cell 3
     have g6:=F6.hz.free 3
     have F7:=F6.set 3 (.slice (some ⟨u1.heap.size,0,none⟩) 1 1)
     have q7:=F6.bytes (by intro x hx k;simp [zsh] at hx;rcases hx with rfl|rfl|rfl<;>simp) 3 (.slice (some ⟨u1.heap.size,0,none⟩) 1 1) q6
     have rw7:=rw6.grownNe (grown_cell (g:=w.heap.size+1) 3 (.slice (some ⟨u1.heap.size,0,none⟩) 1 1)) (by omega)
     have S7:(fun u=>CellAt ⟨w.heap.size,2,none⟩ (.slice (some ⟨b,off,none⟩) kn kc) u∧CellAt ⟨b,off+3+1,none⟩ (.slice a1 t1.length q1) u) (u2.setCell ⟨w.heap.size+1,3,none⟩ (.slice (some ⟨u1.heap.size,0,none⟩) 1 1)):=⟨F7.hx.cell 2,CellAt.grown S6.2 (grown_cell 3 _) (by simp<;>omega)⟩
     (refine wpH_only 9 (by rfl) (by kernel_rfl) (fun K hK=>?_);simp only [List.setIfInBounds_toArray,List.set_cons_zero,List.set_cons_succ] at hK;go_simp)
     refine hK _ _ S7 ?_;clear hK K
     exact wpH_done (by kernel_rfl) ⟨rfl,u1.heap.size,(by simp only [Act.put,List.setIfInBounds_toArray,List.set_cons_zero,List.set_cons_succ]),hgb,F7,q7,rw7⟩
   rintro bb w9 ⟨gb,rfl,hgb,F9,q9,rw9⟩
   simp only [Act.put,List.setIfInBounds_toArray,List.set_cons_zero,List.set_cons_succ]
   have r1':=r1.below F9.hb
   clear F4 r4 hq1
   go_wp2_with (first
    |(refine wpList_loadA (o:=⟨some 92,_,_,_,_,_⟩) (by rfl) 133 (.tmp 2) (by rfl) (w.heap.size+1) (by rfl) aggShape F9.hz (by rfl) ?_)
    |((with_reducible show wpList _ _ _ (⟨none,.store _ _ (.tmp 92),_,_,_,_⟩::_) _ _);refine wpList_storeA (o:=⟨none,_,_,_,_,_⟩) (by rfl) 133 (.tmp 2) (.tmp 92) (by rfl) (w.heap.size+1) [.int .i64 2,(.slice p3 (unP t0).length pc3),.slice none 0 0,.slice (some ⟨gb,0,none⟩) 1 1] (by rfl) (by rfl) aggShape F9.hz (by rfl) (by rfl) (by intro u hu;simp at hu;rcases hu with rfl|rfl|rfl|rfl<;>rfl) F9.hb (by omega) ?_;intro w10 h10 hbel10 g10;have q10:=Bytes.off_v q9 F9.hz (by intro x hx k;simp at hx;rcases hx with rfl|rfl|rfl|rfl<;>simp) g10;have rw10:=rw9.grownNe g10 (by omega)))
   exact bodyPost_ret (v:=.tuple #[.agg #[.int .i64 2,(.slice p3 (unP t0).length pc3),.slice none 0 0,.slice (some ⟨gb,0,none⟩) 1 1],.bool true]) (results_blk_tmp rfl _ _ (w.heap.size+1) aggShape h10 rfl rfl rfl) rfl ⟨hbel10,p3,pc3,none,0,some ⟨gb,0,none⟩,1,[((.slice a1 t1.length q1),t1)],rfl,q10,RowOf.nil b8 1 w10,⟨rw10,by intro p hp;rw [List.mem_singleton] at hp;subst hp;exact r1.below hbel10⟩,rfl,fun x hx=>by simp [Value.ownBlock] at hx;omega⟩
end Go.Proofs.YtcgpjceopnfahaaGreat
