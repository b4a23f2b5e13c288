/- root.shape of a fork. | root.shape, put together. -/
import Derived.Test.YtcgpjceopnfahaaGreatWorldChecksK31
import Derived.Test.YtcgpjceopnfahaaGreatWorldChecksK32
import Derived.Test.YtcgpjceopnfahaaGreatWorldChecksK33
set_option linter.unusedSimpArgs false
set_option linter.unusedVariables false
set_option maxHeartbeats 4000000
set_option maxRecDepth 100000
namespace Go.Proofs.YtcgpjceopnfahaaGreat
open Go.RowKit
theorem elTxt:El0 Tryz.prog 44 25 (.slice none 0 0) 1 24 tcell:=⟨by kernel_rfl,by kernel_rfl,rfl,by omega,fun _=>rfl⟩
theorem ShW.grown {w u u':World}{box cs:List Value}{row:Option Nat}(h:ShW w box cs u)(hg:u.grownBy u' row)(hr:∀ x,row=some x→w.heap.size+2≤x):ShW w box cs u' :=
 ⟨h.hb.grown hg h.hb.size (fun x hx=>by have:=hr x hx;omega),h.hx.grown hg (fun e=>by have:=hr _ e;omega),h.hz.grown hg (fun e=>by have:=hr _ e;omega)⟩
theorem to_any {α:Type}{f:α→List Value}{P:Program}{t e:TypeId}{z:Value}{size bytes:Nat}(el:El0 P t e z size bytes f){w:World}{a:Option Addr}{n c:Nat}{l:List α}(h:RowOf f size w (.slice a n c) l)(hi:Nat)(h1:hi≤n)(x:Int)(hx:x=hi) :
  ∃ a' c',(∀ k w',(Instr.slice t (.slice a n c) none (some (.int k x)) none).run P w'=.ok (.slice a' hi c') w')∧RowOf f size w (.slice a' hi c') (l.take hi):=by
 subst hx
 obtain ⟨hn,hnc,hcm⟩:=h.fits
 obtain ⟨a',c',h2,h3⟩:=h.part el.hf el.hsz 0 hi (Nat.zero_le _) h1
 obtain ⟨i,hi',_,hsi,_⟩:=el.info
 have hel:P.elem t=e:=by unfold Program.elem;rw [el.ht]
 refine ⟨a',c',fun k w'=>?_,by simpa using h3⟩
 rw [run_slice_h (P:=P) w' (t:=t) (a:=a) (len:=n) (cap:=c) (by rw [hel];exact el.ht) k (hi:Int) (by omega) (by omega)]
 rw [hel]
 simp [sizeOf,typeInfo,hi',hsi] at h2 ⊢
 exact h2
theorem shape_fork (ta:Option Addr)(tn tc:Nat)(ka:Option Addr)(kn kc:Nat)(ks:List Itm)(hkn:ks.length=kn)(hs:kn≤1048576)(h17:kn=17)(w:World)(hk:RowOf icells 3 w (.slice ka kn kc) ks)(hi:∀ k∈ks,IsItm w k) :
  Calls Tryz.prog 125 #[.agg #[.bool true,.slice ta tn tc,.slice ka kn kc]] w (ShPost (shpP (.lst (ks.map erI))) w):=by
 obtain ⟨w1,hw1⟩:∃ w1,w1=(w.alloc (.cells #[.bool true,.slice ta tn tc,.slice ka kn kc] 77)).alloc (.cells #[.int .i64 0,.slice none 0 0,.slice none 0 0,.slice none 0 0] 133):=⟨_,rfl⟩
 have F1:ShW w [.bool true,.slice ta tn tc,.slice ka kn kc] zsh w1:=by rw [hw1];exact ShW.start w _ _ _
 have Hw1:=Lib.hid hw1
 have hnone:∀ (i:Nat) (k:Itm),ks[i]?=some k→itl k=true→shpP (.lst (ks.map erI))=none:=fun i k h1 h2=>by simp only [shpP,allT_lst h1 h2]
 have hall:(∀ (i:Nat) (k:Itm),ks[i]?=some k→itl k=false)→shpP (.lst (ks.map erI))=some (3,[],(ks.map itt)[16]?.getD [],(ks.map itt).take 16):=fun h=>by
  simp only [shpP,allT_texts h,List.length_map,hkn]
  rw [if_pos h17]
 have h17t:((kn:Int)==17)=true:=by rw [beq_iff_eq];omega
 have i16:(16:Int)<(kn:Int):=by omega
 have i16n:16<kn:=by omega
 have i16l:(16:Int)≤(kn:Int):=by omega
 have H17:=Lib.hid h17
 clear h17
 obtain ⟨O,hO⟩:∃ O,O=shpP (.lst (ks.map erI)):=⟨_,rfl⟩
 rw [←hO] at hnone hall
 rw [←hO]
 have Hnone:=Lib.hid hnone
 have Hall:=Lib.hid hall
 have Hkn:=Lib.hid hkn
 have Hi:=Lib.hid hi
 clear hw1 hnone hall hkn hi hO
 go_enter Tryz.func125,Tryz.ntmps125
 go_wp2_with fail
 rw [←Hw1.out]
 go_loopw [22] (fun ix wr=>∃ k:Nat,k≤kn∧ix=.int .i64 (k:Int)∧ShW w [.bool true,.slice ta tn tc,.slice ka kn kc] zsh wr∧Hid (∀ (j:Nat) (x:Itm),j<k→ks[j]?=some x→itl x=false)) (fun ix _=>kn - (intOf ix).toNat)
 case atStart=>exact ⟨0,by omega,rfl,F1,Lib.hid (fun j x hj=>by omega)⟩
 case round =>
  clear F1
  obtain ⟨k,hkk,rfl,F,Hd⟩:=hrel
  have cx2:wr.cell? ⟨w.heap.size,2,none⟩=some (.slice ka kn kc):=F.hx.cell 2
  by_cases hlt:k<kn
  ·have hki:(k:Int)<(kn:Int):=by omega
   have hl1:k<ks.length:=by rw [Hkn.out];exact hlt
   obtain ⟨b,off,rfl,hr⟩:=RowOf.range icells_len (hk.below F.hb) k hl1
   have hI:IsItm wr ks[k]:=(Hi.out _ (List.getElem_mem hl1)).kept F.hb
   have hks:ks[k]?=some ks[k]:=List.getElem?_eq_getElem hl1
   obtain ⟨kid,hkid⟩:∃ x,x=ks[k]:=⟨_,rfl⟩
   rw [←hkid] at hr hI hks
   obtain ⟨l2,tv2,t2,kv2,ks2⟩:=kid
   obtain ⟨ta2,tc2,rfl,_,_⟩:=hI.inv.1.form
   obtain ⟨ka2,kc2,rfl,_,_⟩:=hI.inv.2.1.form
   obtain ⟨tn2,htn2⟩:∃ tn2,tn2=t2.length:=⟨_,rfl⟩
   obtain ⟨kn2,hkn2⟩:∃ kn2,kn2=ks2.length:=⟨_,rfl⟩
   rw [←htn2,←hkn2] at hr hI hks
   change wr.rangeAt b (off+k*3) [.bool l2,.slice ta2 tn2 tc2,.slice ka2 kn2 kc2] at hr
   have F2:=F.kept ((Below.refl wr.heap.size wr).alloc (Nat.le_refl _) (.cells #[.bool l2,.slice ta2 tn2 tc2,.slice ka2 kn2 kc2] 77))
   cases l2 with
   | true =>
    have hON:O=none:=Hnone.out k _ hks rfl
    subst hON
    clear hkid hI htn2 hkn2 hks F
    go_wp2_with (first
     |(refine wpList_load_mid (op:=⟨some 25,_,_,_,_,_⟩) (by rfl) 77 (.tmp 24) (by rfl) b (off+k*3) (by rfl) [.bool true,.slice ta2 tn2 tc2,.slice ka2 kn2 kc2] _ hr Tryz.underlying77 rfl (by kernel_rfl) ?_)
     |(refine wpList_loadA (o:=⟨some 28,_,_,_,_,_⟩) (by rfl) 133 (.tmp 2) (by rfl) (w.heap.size+1) (by rfl) aggShape F2.hz (by rfl) ?_)
     |((with_reducible show wpList _ _ _ (⟨none,.store _ _ (.tmp 28),_,_,_,_⟩::_) _ _);refine wpList_storeA (o:=⟨none,_,_,_,_,_⟩) (by rfl) 133 (.tmp 2) (.tmp 28) (by rfl) (w.heap.size+1) zsh (by rfl) (by rfl) aggShape F2.hz (by rfl) (by rfl) (by intro u hu;simp [zsh] at hu;rcases hu with rfl|rfl<;>rfl) F2.hb (by omega) ?_;intro w5 h5 hbel5 _))
    exact bodyPost_ret (v:=.tuple #[.agg #[.int .i64 0,.slice none 0 0,.slice none 0 0,.slice none 0 0],.bool false]) (results_blk_tmp rfl _ _ (w.heap.size+1) aggShape h5 rfl rfl rfl) rfl ⟨hbel5,0,none,0,0,none,0,0,none,0,0,rfl⟩
   | false =>
    have hd2:∀ (j:Nat) (x:Itm),j<k+1→ks[j]?=some x→itl x=false:=fun j x hj hx=>by
     rcases Nat.lt_or_ge j k with h|h
     ·exact Hd.out j x h hx
     ·obtain rfl:j=k:=by omega
      rw [hks] at hx
      cases hx
      rfl
    have Hd2:=Lib.hid hd2
    clear hkid hI htn2 hkn2 hks F hd2
    go_wp2_with (refine wpList_load_mid (op:=⟨some 25,_,_,_,_,_⟩) (by rfl) 77 (.tmp 24) (by rfl) b (off+k*3) (by rfl) [.bool false,.slice ta2 tn2 tc2,.slice ka2 kn2 kc2] _ hr Tryz.underlying77 rfl (by kernel_rfl) ?_)
    go_roundw
    case rel=>exact ⟨k+1,by omega,by go_num,F2,Hd2⟩
    case measure=>simp [intOf];omega
  ·obtain rfl:kn=k:=by omega
   have hOO:=Hall.out (fun i x hx=>Hd.out i x (by have:=(List.getElem?_eq_some_iff.1 hx).1;have:=Hkn.out;omega) hx)
   have hlen:ks.length=17:=Hkn.out.trans H17.out
   have h16:ks[16]?=some (ks[16]'(by omega)):=List.getElem?_eq_getElem (by omega)
   obtain ⟨x16,hx16⟩:∃ x,x=ks[16]'(by omega):=⟨_,rfl⟩
   rw [←hx16] at h16
   have r1:Bytes w (match x16 with|.mk _ tv _ _ _=>tv) (itt x16):=by
    have hm:=Hi.out x16 (List.mem_of_getElem? h16)
    cases x16 with
    | mk l tv t kv ks'=>exact hm.inv.1
   obtain ⟨b,off,rfl,hc1⟩:=RowOf.cells (f:=icells) (size:=3) icells_len hk 16 (by omega)
   rw [←hx16] at hc1
   obtain ⟨l1,tv1,t1,kv1,ks1⟩:=x16
   change Bytes w tv1 t1 at r1
   have hc11:w.cell? ⟨b,off+48+1,none⟩=some tv1:=by have:=hc1 1 tv1 rfl;rw [show off+(16*3+1)=off+48+1 from by omega] at this;exact this
   have hblt:=World.block_lt_of_cell? w _ hc11
   obtain ⟨a1,q1,rfl,_,_⟩:=r1.form
   have hq1:wr.cell? ⟨b,off+48+1,none⟩=some (.slice a1 t1.length q1):=by rw [F.hb.cell (p:=⟨b,off+48+1,none⟩) hblt];exact hc11
   have hOO':O=some (3,[],t1,(ks.map itt).take 16):=by rw [hOO,List.getElem?_map,h16];rfl
   subst hOO'
   obtain ⟨aas,ccs,qqs,rs⟩:=to_any elItem hk 16 (by omega) 16 rfl
   have hlts:(ks.take 16).length=16:=by rw [List.length_take];omega
   have Hlts:=Lib.hid hlts
   clear hOO hc1 hx16 h16 hlts hc11
   go_wp2_with fail
   refine wp_region_via (fun aa bb w'=>bb=(((((((aa.put (some 36) (.pointer (some ⟨w.heap.size,2,none⟩))).put (some 37) (.slice (some ⟨b,off,none⟩) kn kc)).put (some 38) (.pointer (some ⟨b,off+48,none⟩))).put (some 39) (.pointer (some ⟨b,off+48+1,none⟩))).put (some 40) (.slice a1 t1.length q1)).put (some 41) (.pointer (some ⟨w.heap.size+1,0,none⟩))).put (some 42) (.pointer (some ⟨w.heap.size+1,2,none⟩)))∧ShW w [.bool true,.slice ta tn tc,.slice (some ⟨b,off,none⟩) kn kc] [.int .i64 3,.slice none 0 0,(.slice a1 t1.length q1),.slice none 0 0] w') ?_ ?_
   ·refine wp_region_h ((fun u=>CellAt ⟨w.heap.size,2,none⟩ (.slice (some ⟨b,off,none⟩) kn kc) u∧CellAt ⟨b,off+48+1,none⟩ (.slice a1 t1.length q1) u)) (by kernel_rfl) ?_;intro u0 hu0;simp only [List.length_cons,List.length_nil,Nat.reduceAdd,List.replicate_succ,List.replicate_zero]
    have F0:ShW w [.bool true,.slice ta tn tc,.slice (some ⟨b,off,none⟩) kn kc] zsh u0:=by rw [hu0];exact F.kept (Below.refl _ _).drew
    have S0:(fun u=>CellAt ⟨w.heap.size,2,none⟩ (.slice (some ⟨b,off,none⟩) kn kc) u∧CellAt ⟨b,off+48+1,none⟩ (.slice a1 t1.length q1) u) u0:=⟨F0.hx.cell 2,by rw [hu0];exact hq1⟩
    have k1:∀ u:In (fun u=>CellAt ⟨w.heap.size,2,none⟩ (.slice (some ⟨b,off,none⟩) kn kc) u∧CellAt ⟨b,off+48+1,none⟩ (.slice a1 t1.length q1) u),u.val.cell? ⟨w.heap.size,2,none⟩=some (.slice (some ⟨b,off,none⟩) kn kc):=fun u=>u.held.1
    have k2:∀ u:In (fun u=>CellAt ⟨w.heap.size,2,none⟩ (.slice (some ⟨b,off,none⟩) kn kc) u∧CellAt ⟨b,off+48+1,none⟩ (.slice a1 t1.length q1) u),u.val.cell? ⟨b,off+48+1,none⟩=some (.slice a1 t1.length q1):=fun u=>u.held.2
    clear hu0 F hq1 cx2
    (refine wpH_take 0 (by rfl) (by kernel_rfl) (by intro _ _ _ h;first|exact h|(cases h.1)) (by intro _ _ _ _ h;first|exact h|(cases h.1)) (by assumption) (fun K hK=>?_);simp only [List.setIfInBounds_toArray,List.set_cons_zero,List.set_cons_succ] at hK;go_simp;first|(refine hK _ ?_;clear hK K)|(apply Exists.intro;refine ⟨fun _=>rfl,hK _ ?_⟩;clear hK K));(refine wpH_take 1 (by rfl) (by kernel_rfl) (by intro _ _ _ h;first|exact h|(cases h.1)) (by intro _ _ _ _ h;first|exact h|(cases h.1)) (by assumption) (fun K hK=>?_);simp only [List.setIfInBounds_toArray,List.set_cons_zero,List.set_cons_succ] at hK;go_simp;first|(refine hK _ ?_;clear hK K)|(apply Exists.intro;refine ⟨fun _=>rfl,hK _ ?_⟩;clear hK K));(refine wpH_take 2 (by rfl) (by kernel_rfl) (by intro _ _ _ h;first|exact h|(cases h.1)) (by intro _ _ _ _ h;first|exact h|(cases h.1)) (by assumption) (fun K hK=>?_);simp only [List.setIfInBounds_toArray,List.set_cons_zero,List.set_cons_succ] at hK;go_simp;first|(refine hK _ ?_;clear hK K)|(apply Exists.intro;refine ⟨fun _=>rfl,hK _ ?_⟩;clear hK K));(refine wpH_take 3 (by rfl) (by kernel_rfl) (by intro _ _ _ h;first|exact h|(cases h.1)) (by intro _ _ _ _ h;first|exact h|(cases h.1)) (by assumption) (fun K hK=>?_);simp only [List.setIfInBounds_toArray,List.set_cons_zero,List.set_cons_succ] at hK;go_simp;first|(refine hK _ ?_;clear hK K)|(apply Exists.intro;refine ⟨fun _=>rfl,hK _ ?_⟩;clear hK K));(refine wpH_take 4 (by rfl) (by kernel_rfl) (by intro _ _ _ h;first|exact h|(cases h.1)) (by intro _ _ _ _ h;first|exact h|(cases h.1)) (by assumption) (fun K hK=>?_);simp only [List.setIfInBounds_toArray,List.set_cons_zero,List.set_cons_succ] at hK;go_simp;first|(refine hK _ ?_;clear hK K)|(apply Exists.intro;refine ⟨fun _=>rfl,hK _ ?_⟩;clear hK K));(refine wpH_take 5 (by rfl) (by kernel_rfl) (by intro _ _ _ h;first|exact h|(cases h.1)) (by intro _ _ _ _ h;first|exact h|(cases h.1)) (by assumption) (fun K hK=>?_);simp only [List.setIfInBounds_toArray,List.set_cons_zero,List.set_cons_succ] at hK;go_simp;first|(refine hK _ ?_;clear hK K)|(apply Exists.intro;refine ⟨fun _=>rfl,hK _ ?_⟩;clear hK K))
    clear k1 k2
    have y0:u0.cell? ⟨w.heap.size+1,0,none⟩=some (.int .i64 0):=F0.hz.cell 0
    have g0:=F0.hz.free 0
    have F5:=F0.set 0 (.int .i64 3)
    have S5:(fun u=>CellAt ⟨w.heap.size,2,none⟩ (.slice (some ⟨b,off,none⟩) kn kc) u∧CellAt ⟨b,off+48+1,none⟩ (.slice a1 t1.length q1) u) (u0.setCell ⟨w.heap.size+1,0,none⟩ (.int .i64 3)):=⟨F5.hx.cell 2,CellAt.grown S0.2 (grown_cell 0 _) (by simp<;>omega)⟩
    (refine wpH_only 6 (by rfl) (by kernel_rfl) (fun K hK=>?_);simp only [List.setIfInBounds_toArray,List.set_cons_zero,List.set_cons_succ] at hK;go_simp)
    refine hK _ _ S5 ?_;clear hK K
    (refine wpH_take 7 (by rfl) (by kernel_rfl) (by intro _ _ _ h;first|exact h|(cases h.1)) (by intro _ _ _ _ h;first|exact h|(cases h.1)) (by assumption) (fun K hK=>?_);simp only [List.setIfInBounds_toArray,List.set_cons_zero,List.set_cons_succ] at hK;go_simp;first|(refine hK _ ?_;clear hK K)|(apply Exists.intro;refine ⟨fun _=>rfl,hK _ ?_⟩;clear hK K))
    have y5:(u0.setCell ⟨w.heap.size+1,0,none⟩ (.int .i64 3)).cell? ⟨w.heap.size+1,2,none⟩=some (.slice none 0 0):=F5.hz.cell 2
    have g5:=F5.hz.free 2
    have F6:=F5.set 2 (.slice a1 t1.length q1)
    have S6:(fun u=>CellAt ⟨w.heap.size,2,none⟩ (.slice (some ⟨b,off,none⟩) kn kc) u∧CellAt ⟨b,off+48+1,none⟩ (.slice a1 t1.length q1) u) ((u0.setCell ⟨w.heap.size+1,0,none⟩ (.int .i64 3)).setCell ⟨w.heap.size+1,2,none⟩ (.slice a1 t1.length q1)):=⟨F6.hx.cell 2,CellAt.grown S5.2 (grown_cell 2 _) (by simp<;>omega)⟩
    (refine wpH_only 8 (by rfl) (by kernel_rfl) (fun K hK=>?_);simp only [List.setIfInBounds_toArray,List.set_cons_zero,List.set_cons_succ] at hK;go_simp)
    refine hK _ _ S6 ?_;clear hK K
    exact wpH_done (by kernel_rfl) ⟨rfl,(by simp only [Act.put,List.setIfInBounds_toArray,List.set_cons_zero,List.set_cons_succ]),F6⟩
   rintro bb w9 ⟨rfl,F9⟩
   simp only [Act.put,List.setIfInBounds_toArray,List.set_cons_zero,List.set_cons_succ]
   have cx9:w9.cell? ⟨w.heap.size,2,none⟩=some (.slice (some ⟨b,off,none⟩) kn kc):=F9.hx.cell 2
   clear cx2 hq1 F
   go_wp2_with fail
   go_loopw [47] (fun ix wr=>∃ (i:Nat) (kv:Value) (ps:List (Value × List UInt8)),i≤16∧ix=.int .i64 (i:Int)∧ShW w [.bool true,.slice ta tn tc,.slice (some ⟨b,off,none⟩) kn kc] [.int .i64 3,.slice none 0 0,(.slice a1 t1.length q1),kv] wr∧OwnOf tcell 1 25 wr (w.heap.size+2) kv ps∧Hid (ps.map (·.2)=((ks.take 16).map itt).take i)∧Hid (∀ p∈ps,Bytes w p.1 p.2)) (fun ix _=>16 - (intOf ix).toNat)
   case atStart=>exact ⟨0,.slice none 0 0,[],by omega,rfl,F9,OwnOf.nil tcell 1 _ _ _,Lib.hid rfl,Lib.hid (by simp)⟩
   case round =>
    clear F9 cx9
    obtain ⟨i,kv,ps,hi16,rfl,G,hO,Hps,Hall2⟩:=hrel
    have hpl:ps.length=i:=by
     have:=congrArg List.length Hps.out
     simp only [List.length_map,List.length_take] at this
     have h2:=Hlts.out
     rw [List.length_take] at h2
     omega
    obtain ⟨ka3,kc3,rfl,_⟩:=hO.form' i hpl
    have Hpl:=Lib.hid hpl
    clear hpl
    by_cases hit:i<16
    ·have hii:(i:Int)<16:=by omega
     have hl1:i<(ks.take 16).length:=by rw [Hlts.out];exact hit
     obtain ⟨b2,off2,rfl,hr⟩:=RowOf.range icells_len (rs.below G.hb) i hl1
     have hmem:(ks.take 16)[i]∈ks:=List.mem_of_mem_take (List.getElem_mem hl1)
     have hI0:=Hi.out _ hmem
     have hnext:((ks.take 16).map itt).take (i+1)=((ks.take 16).map itt).take i++[itt (ks.take 16)[i]]:=by
      rw [List.take_succ_eq_append_getElem (by rw [List.length_map];exact hl1),List.getElem_map]
     obtain ⟨kid,hkid⟩:∃ x,x=(ks.take 16)[i]:=⟨_,rfl⟩
     rw [←hkid] at hr hI0 hnext
     have hI:=hI0.kept G.hb
     obtain ⟨l2,tv2,t2,kv2,ks2⟩:=kid
     obtain ⟨ta2,tc2,rfl,_,_⟩:=hI.inv.1.form
     obtain ⟨ka2,kc2,rfl,_,_⟩:=hI.inv.2.1.form
     have hb2:Bytes w (.slice ta2 t2.length tc2) t2:=hI0.inv.1
     obtain ⟨tn2,htn2⟩:∃ tn2,tn2=t2.length:=⟨_,rfl⟩
     obtain ⟨kn2,hkn2⟩:∃ kn2,kn2=ks2.length:=⟨_,rfl⟩
     rw [←htn2,←hkn2] at hr
     rw [←htn2] at hb2
     change wr.rangeAt b2 (off2+i*3) [.bool l2,.slice ta2 tn2 tc2,.slice ka2 kn2 kc2] at hr
     change ((ks.take 16).map itt).take (i+1)=((ks.take 16).map itt).take i++[t2] at hnext
     have Hnext:=Lib.hid hnext
     have Hb2:=Lib.hid hb2
     have bA:Below wr.heap.size wr (wr.alloc (.cells #[.bool l2,.slice ta2 tn2 tc2,.slice ka2 kn2 kc2] 77)):=(Below.refl _ _).alloc (Nat.le_refl _) _
     have G2:=G.kept bA
     have O2:=hO.kept bA
     have c3:(wr.alloc (.cells #[.bool l2,.slice ta2 tn2 tc2,.slice ka2 kn2 kc2] 77)).cell? ⟨w.heap.size+1,3,none⟩=some (.slice ka3 i kc3):=G2.hz.cell 3
     clear hkid hI hI0 htn2 hkn2 hmem hnext hb2 hl1
     go_wp2_with (first
      |(refine wpList_load_mid (op:=⟨some 50,_,_,_,_,_⟩) (by rfl) 77 (.tmp 49) (by rfl) b2 (off2+i*3) (by rfl) [.bool l2,.slice ta2 tn2 tc2,.slice ka2 kn2 kc2] _ hr Tryz.underlying77 rfl (by kernel_rfl) ?_)
      |(refine wpList_buildW (o:=⟨some 55,_,_,_,_,_⟩) (by rfl) 44 1 [(0,.tmp 54)] (by rfl) elTxt [(.slice ta2 tn2 tc2,t2)] [.slice ta2 tn2 tc2] (by rfl) (by rfl) (by rfl) (by omega) (by omega) ?_;intro w6 _ hr6 b6;have G6:=G2.kept b6;have O6:=O2.kept b6;have hlt6:w.heap.size+2≤w6.heap.size:=G6.hz.lt)
      |(refine wpList_appB (o:=⟨some 56,_,_,_,_,_⟩) (by rfl) (.tmp 52) (.tmp 55) 44 (by rfl) elTxt (by intro u hu;simp [tcell] at hu;subst hu;rfl) (by rfl) O6 (by rfl) hr6 hlt6 (by rw [Hpl.out];simp;omega) (by rw [Hpl.out];unfold maxLen;simp;omega) ?_;intro v7 w7 hO7 gg7 pp7;obtain ⟨ka7,kc7,rfl,_⟩:=hO7.form' (i+1) (by rw [List.length_append,Hpl.out];rfl);have G7:=G6.grown gg7 (fun x hx=>O6.lt x hx);have G8:=G7.set 3 (.slice ka7 (i+1) kc7);have y7:w7.cell? ⟨w.heap.size+1,3,none⟩=some (.slice ka3 i kc3):=G7.hz.cell 3;have f7:=G7.hz.free 3;have O8:=hO7.grown (grown_cell (g:=w.heap.size+1) 3 (.slice ka7 (i+1) kc7)) (fun k hk e=>by cases hk;have:=hO7.lt _ e;omega)))
     go_roundw
     case rel=>exact ⟨i+1,.slice ka7 (i+1) kc7,ps++[(.slice ta2 tn2 tc2,t2)],by omega,by go_num,G8,O8,Lib.hid (by rw [List.map_append,Hps.out,Hnext.out];rfl),Lib.hid (by intro p hp;rcases List.mem_append.1 hp with hp|hp;exact Hall2.out p hp;rw [List.mem_singleton] at hp;subst hp;exact Hb2.out)⟩
     case measure=>simp [intOf];omega
    ·obtain rfl:i=16:=by omega
     have hps:ps.map (·.2)=(ks.map itt).take 16:=by
      rw [Hps.out,List.map_take,List.take_take];rfl
     have Hps2:=Lib.hid hps
     clear hps
     go_wp2_with (first
      |(refine wpList_loadA (o:=⟨some 92,_,_,_,_,_⟩) (by rfl) 133 (.tmp 2) (by rfl) (w.heap.size+1) (by rfl) aggShape G.hz (by rfl) ?_)
      |((with_reducible show wpList _ _ _ (⟨none,.store _ _ (.tmp 92),_,_,_,_⟩::_) _ _);refine wpList_storeA (o:=⟨none,_,_,_,_,_⟩) (by rfl) 133 (.tmp 2) (.tmp 92) (by rfl) (w.heap.size+1) [.int .i64 3,.slice none 0 0,(.slice a1 t1.length q1),.slice ka3 16 kc3] (by rfl) (by rfl) aggShape G.hz (by rfl) (by rfl) (by intro u hu;simp at hu;rcases hu with rfl|rfl|rfl|rfl<;>rfl) G.hb (by omega) ?_;intro w10 h10 hbel10 g10;have O10:=hO.grown g10 (fun k hk e=>by cases hk;have:=hO.lt _ e;omega)))
     have hl16:((ks.map itt).take 16).length=16:=by have:=congrArg List.length Hps2.out;rw [List.length_map,Hpl.out] at this;exact this.symm
     refine bodyPost_ret (v:=.tuple #[.agg #[.int .i64 3,.slice none 0 0,(.slice a1 t1.length q1),.slice ka3 16 kc3],.bool true]) (results_blk_tmp rfl _ _ (w.heap.size+1) aggShape h10 rfl rfl rfl) rfl ⟨hbel10,none,0,a1,q1,ka3,kc3,ps,?_,RowOf.nil b8 1 w10,r1.below hbel10,⟨?_,fun p hp=>(Hall2.out p hp).below hbel10⟩,Hps2.out,?_⟩
     ·show _=Ending.returned (.tuple #[.agg #[.int .i64 3,.slice none 0 0,(.slice a1 t1.length q1),.slice ka3 ((ks.map itt).take 16).length kc3],.bool true])
      rw [hl16]
     ·show RowOf tcell 1 w10 (.slice ka3 ((ks.map itt).take 16).length kc3) ps
      rw [hl16];exact O10.row
     ·intro x hx
      have h2:(Value.slice ka3 16 kc3).ownBlock=some x:=by cases ka3<;>exact hx
      have:=O10.lt x h2
      omega
theorem unE_01 (b:List UInt8):unE b=0∨unE b=1:=by unfold unE;split <;> simp
theorem shape_any (it:Itm)(w:World)(h:IsItm w it)(hbare:BareI it)(hb:(encP (erI it)).length≤1048576):Calls Tryz.prog 125 #[.agg (icells it).toArray] w (ShPost (shpP (erI it)) w):=by
 cases hbare with
 | txt tv t kv =>
  obtain ⟨ta,tc,rfl,_,_⟩:=h.inv.1.form
  rw [erI_mk,if_neg (by simp)]
  exact shape_text ta t.length tc t rfl _ w
 | lst tv kv ks hk =>
  obtain ⟨h1,h2,h3⟩:=h.inv
  obtain ⟨ta,tc,rfl,_,_⟩:=h1.form
  obtain ⟨ka,kc,rfl,_,_⟩:=h2.form
  rw [erI_mk,if_pos rfl] at hb ⊢
  have hb2:(encPL (ks.map erI)).length≤1048576:=by
   have:(encP (.lst (ks.map erI))).length≤1048576:=hb
   rw [encP,List.length_append] at this;omega
  have hl:ks.length≤1048576:=by
   have:=encPL_len (ks.map erI)
   rw [List.length_map] at this;omega
  have hl8:∀ k∈ks,(itt k).length≤1048576:=fun k hk'=>by
   have h4:=encPL_mem (List.mem_map_of_mem (f:=erI) hk')
   cases hk k hk' with
   | txt tv t kv =>
    have h5:=txt_le t
    rw [erI_mk] at h4
    have h6:(encP (.txt t)).length≤(encPL (ks.map erI)).length:=h4
    show t.length≤1048576
    omega
   | lst tv kv ks' _=>show ([]:List UInt8).length≤1048576;simp
  show Calls Tryz.prog 125 #[.agg #[.bool true,.slice ta ([]:List UInt8).length tc,.slice ka ks.length kc]] w (ShPost (shpP (.lst (ks.map erI))) w)
  by_cases h17:ks.length=17
  ·exact shape_fork ta _ tc ka ks.length kc ks rfl hl h17 w h2 h3
  ·by_cases h2':ks.length=2
   ·rcases unE_01 ((ks.map itt)[0]?.getD []) with hu|hu
    ·cases hf:unLeaf ((ks.map itt)[0]?.getD []) with
     | true=>exact shape_leaf ta _ tc ka ks.length kc ks rfl hl hl8 h2' hu hf w h2 h3
     | false=>exact shape_road ta _ tc ka ks.length kc ks rfl hl hl8 h2' hu hf w h2 h3
    ·exact shape_untag ta _ tc ka ks.length kc ks rfl hl hl8 h2' hu w h2 h3
   ·exact shape_other ta _ tc ka ks.length kc ks rfl hl h17 h2' w h2 h3
end Go.Proofs.YtcgpjceopnfahaaGreat
