/- The reference's SameAccount at like accounts; ONothing. | The reference's SameAccount at unlike accounts; ONothing. | The reference's oerror. | The reference's  -/
import Derived.Test.YtcgpjceopnfahaaGreatWorldChecksK26
import Derived.Test.YtcgpjceopnfahaaGreatWorldChecksK24
set_option linter.unusedSimpArgs false
set_option linter.unusedVariables false
set_option maxHeartbeats 4000000
set_option maxRecDepth 100000
namespace Go.Proofs.YtcgpjceopnfahaaGreat
open Go.RowKit
def errA (a:Acc):Nat:=if slotsB a.s then (if 1024<a.c.length then 2 else 0) else 1
theorem oerror_any (a:Acc)(hka:a.Ok)(w:World)(h:a.In w) :
  Calls Tryz.prog 38 #[.agg (accs a).toArray] w fun e w'=>e=.returned (.int .i64 (errA a:Int))∧Below w.heap.size w w':=by
 obtain ⟨ca,cc,sa,sc,hcv,hsv⟩:=acc_parts h
 obtain ⟨w1,hw1⟩:∃ w1,w1=w.alloc (.cells (accs a).toArray 28):=⟨_,rfl⟩
 have z1:Blk 28 w1 w.heap.size (accs a):=by rw [hw1];exact Blk.new w _ _
 have hbel0:Below w.heap.size w w1:=by rw [hw1];exact (Below.refl _ _).alloc (Nat.le_refl _) _
 have c5:w1.cell? ⟨w.heap.size,5,none⟩=some (.slice ca a.c.length cc):=by have:=z1.cell 5;rw [show (accs a)[5]?=some a.cv from rfl,hcv] at this;exact this
 have c6:w1.cell? ⟨w.heap.size,6,none⟩=some (.slice sa a.s.length sc):=by have:=z1.cell 6;rw [show (accs a)[6]?=some a.sv from rfl,hsv] at this;exact this
 have hS:RowOf spc 8 w1 (.slice sa a.s.length sc) a.s:=by rw [←hsv];exact (h.below hbel0).2
 obtain ⟨l,hl⟩:∃ l,l=a.s:=⟨_,rfl⟩
 obtain ⟨n,hn⟩:∃ n,n=l.length:=⟨_,rfl⟩
 obtain ⟨cn,hcn⟩:∃ n,n=a.c.length:=⟨_,rfl⟩
 have hka2:=hka.s
 have her:errA a=if slotsB l then (if 1024<cn then 2 else 0) else 1:=by unfold errA;rw [hl,hcn]
 rw [←hl] at c6 hS hka2
 rw [←hn] at c6 hS
 rw [←hcn] at c5
 obtain ⟨E,hE⟩:∃ E,E=errA a:=⟨_,rfl⟩
 rw [←hE]
 have HE:=Lib.hid (hE.trans her)
 clear hE
 obtain ⟨X,hX⟩:∃ X,X=accs a:=⟨_,rfl⟩
 rw [←hX] at hw1 ⊢
 have hsm:=hS.small
 unfold maxLen at hsm
 rw [←hn] at hsm
 have Hn:=Lib.hid hn.symm
 have Hk:=Lib.hid hka2
 have Hw1:=Lib.hid hw1
 have HS:=Lib.hid hS
 clear hw1 hX hl hn hcn hka hka2 her hcv hsv h z1 hS
 go_enter Tryz.func38,Tryz.ntmps38
 go_upto_region 1 with fail
 rw [show (w.alloc (.cells X.toArray 28))=w1 from Hw1.out.symm]
 go_wp2_with fail
 go_loopw [7] (fun ix wr=>∃ i:Nat,i≤n∧ix=.int .i64 (i:Int)∧Below w1.heap.size w1 wr∧Hid (∀ j,j<i→okS l j=true)) (fun ix _=>n - (intOf ix).toNat)
 case atStart=>exact ⟨0,by omega,rfl,Below.refl _ _,Lib.hid (fun j hj=>by omega)⟩
 case round =>
  obtain ⟨i,hin,rfl,hbel,hok⟩:=hrel
  have c6r:wr.cell? ⟨w.heap.size,6,none⟩=some (.slice sa n sc):=by rw [hbel.cell (World.block_lt_of_cell? w1 _ c6)];exact c6
  have c5r:wr.cell? ⟨w.heap.size,5,none⟩=some (.slice ca cn cc):=by rw [hbel.cell (World.block_lt_of_cell? w1 _ c5)];exact c5
  by_cases hlt:i<n
  ·have hz:(i:Int)<(n:Int):=by omega
   have hil:i<l.length:=by rw [Hn.out];exact hlt
   obtain ⟨b,off,rfl,hr⟩:=RowOf.range spc_len (HS.out.below hbel) i hil
   have hkp:=Hk.out _ (List.getElem_mem hil)
   obtain ⟨p,hp⟩:∃ p,p=l[i]:=⟨_,rfl⟩
   rw [←hp] at hr hkp
   have hli:l[i]?=some p:=by rw [hp];exact List.getElem?_eq_getElem hil
   have hry:wr.rangeAt b (off+i*8) (wcs p.1):=fun j v hv=>hr j v (by
    unfold spc
    rw [List.getElem?_append_left (by have:=(List.getElem?_eq_some_iff.1 hv).1;exact this)];exact hv)
   have hrz:wr.rangeAt b (off+i*8+4) (wcs p.2):=fun j v hv=>by
    have:=hr (4+j) v (by
     unfold spc
     rw [List.getElem?_append_right (by rw [wcs_len];omega),wcs_len,Nat.add_sub_cancel_left];exact hv)
    rw [show off+i*8+4+j=off+i*8+(4+j) from by omega];exact this
   have gq:=fun o1 o2 w1=>guardWN p.2 0 o1 o2 w1
   have qq:=fun w1=>eqWN p.2 0 hkp.2 (by unfold W256;omega) w1
   rw [wz0] at gq qq
   obtain ⟨Y,hY⟩:∃ Y,Y=wcs p.1:=⟨_,rfl⟩
   obtain ⟨Z,hZ⟩:∃ Z,Z=wcs p.2:=⟨_,rfl⟩
   have hlY:Y.length=4:=by rw [hY];rfl
   have hlZ:Z.length=4:=by rw [hZ];rfl
   rw [←hY] at hry
   rw [←hZ] at gq qq hrz
   have Gq:=Lib.hid gq
   have RY:=Lib.hid hry
   have RZ:=Lib.hid hrz
   have k6:=fun u:Ext wr=>u.cell c6r
   clear gq hry hrz hr
   by_cases hv:p.2=0
   ·rw [decide_eq_true hv] at qq
    have Qq:=Lib.hid qq
    have hbad:okS l i=false:=by unfold okS;rw [hli];simp [hv]
    have Hres:=Lib.hid (show slotsB l=false from all_stop hil hbad)
    clear qq hv hbad hli hp hY hZ hkp hil
    go_upto_region 4 with fail
    refine wp_region_typed wr 29 (by kernel_rfl) (by kernel_rfl) (Below.refl _ _) ?_;simp only [List.take_succ_cons,List.take_zero,List.take_nil]
    iterate 5 (refine wpX_step (by rfl) (fun K hK=>?_);go_simp;first|(refine hK _ ?_;clear hK K)|(apply Exists.intro;refine ⟨fun _=>?_,hK _ ?_⟩;fail;clear hK K))
    (refine wpX_step (by rfl) (fun K hK=>?_);rw [if_pos (by rfl)];refine ⟨_,fun u=>const_loadm _ (.tmp 14) (by rfl) _ _ (by rfl) aggWord hlZ (rangeAt.ext RZ.out u),hK _ ?_⟩;clear hK K;simp only [Act.put,List.setIfInBounds_toArray,List.set_cons_zero,List.set_cons_succ])
    (refine wpX_step (by rfl) (fun K hK=>?_);go_simp;first|(refine hK _ ?_;clear hK K)|(apply Exists.intro;refine ⟨fun _=>?_,hK _ ?_⟩;fail;clear hK K))
    (refine wpX_step (by rfl) (fun K hK=>?_);rw [if_pos (by rfl)];refine ⟨_,fun u=>const_eql _ _ _ _ (by rfl) (by rfl) (by rfl) (fun o1 o2 w1=>Gq.out o1 o2 w1) (fun w1=>Qq.out w1),hK _ ?_⟩;clear hK K;simp only [Act.put,List.setIfInBounds_toArray,List.set_cons_zero,List.set_cons_succ])
    iterate 21 (refine wpX_step (by rfl) (fun K hK=>?_);go_simp;first|(refine hK _ ?_;clear hK K)|(apply Exists.intro;refine ⟨fun _=>?_,hK _ ?_⟩;fail;clear hK K))
    refine wpX_nil ?_
    intro y5 b5
    change forallRel y5 [] _ _
    simp only [forallRel,List.drop_succ_cons,List.drop_zero,List.drop_nil]
    go_wp2_with fail
    go_ret
    have he:E=1:=by rw [HE.out,Hres.out];rfl
    exact ⟨by rw [he];rfl,Below.then (Below.then hbel0 hbel) b5⟩
   ·rw [decide_eq_false hv] at qq
    have Qq:=Lib.hid qq
    by_cases hi0:i=0
    ·have hi1:¬ 0<i:=by omega
     have hd1:decide (0<i)=false:=decide_eq_false hi1
     have hgood:okS l i=true:=by unfold okS;rw [hli,hi0];simp [hv]
     have hi0':=Lib.hid hi0
     have Hgood:=Lib.hid hgood
     clear qq hv hgood hli hp hY hZ hkp hil hi0
     go_upto_region 4 with fail
     refine wp_region_typed wr 29 (by kernel_rfl) (by kernel_rfl) (Below.refl _ _) ?_;simp only [List.take_succ_cons,List.take_zero,List.take_nil]
     iterate 5 (refine wpX_step (by rfl) (fun K hK=>?_);go_simp;first|(refine hK _ ?_;clear hK K)|(apply Exists.intro;refine ⟨fun _=>?_,hK _ ?_⟩;fail;clear hK K))
     (refine wpX_step (by rfl) (fun K hK=>?_);rw [if_pos (by rfl)];refine ⟨_,fun u=>const_loadm _ (.tmp 14) (by rfl) _ _ (by rfl) aggWord hlZ (rangeAt.ext RZ.out u),hK _ ?_⟩;clear hK K;simp only [Act.put,List.setIfInBounds_toArray,List.set_cons_zero,List.set_cons_succ])
     (refine wpX_step (by rfl) (fun K hK=>?_);go_simp;first|(refine hK _ ?_;clear hK K)|(apply Exists.intro;refine ⟨fun _=>?_,hK _ ?_⟩;fail;clear hK K))
     (refine wpX_step (by rfl) (fun K hK=>?_);rw [if_pos (by rfl)];refine ⟨_,fun u=>const_eql _ _ _ _ (by rfl) (by rfl) (by rfl) (fun o1 o2 w1=>Gq.out o1 o2 w1) (fun w1=>Qq.out w1),hK _ ?_⟩;clear hK K;simp only [Act.put,List.setIfInBounds_toArray,List.set_cons_zero,List.set_cons_succ])
     iterate 21 (refine wpX_step (by rfl) (fun K hK=>?_);go_simp;first|(refine hK _ ?_;clear hK K)|(apply Exists.intro;refine ⟨fun _=>?_,hK _ ?_⟩;fail;clear hK K))
     refine wpX_nil ?_
     intro y5 b5
     change forallRel y5 [] _ _
     simp only [forallRel,List.drop_succ_cons,List.drop_zero,List.drop_nil]
     go_wp2_with fail
     go_roundw
     case rel=>exact ⟨i+1,by omega,by go_num,Below.then hbel b5,Lib.hid (fun j hj=>by
      have:j=i:=by have:=hi0'.out;omega
      rw [this];exact Hgood.out)⟩
     case measure=>simp [intOf];omega
    ·have hi1:0<i:=by omega
     have hd1:decide (0<i)=true:=decide_eq_true hi1
     obtain ⟨J,hJ⟩:∃ J,J=i - 1:=⟨_,rfl⟩
     have hJl:J<l.length:=by omega
     have hsub:IntKind.i64.wrap ((i:Int) - 1)=(J:Int):=by rw [IntWalk.i64_in _ (by omega)];omega
     have hJn:(J:Int)<(n:Int):=by omega
     have hJn2:J<n:=by omega
     obtain ⟨b2',off2',hbe,hr2⟩:=RowOf.range spc_len (HS.out.below hbel) J hJl
     simp only [Option.some.injEq,Addr.mk.injEq,and_true] at hbe
     obtain ⟨rfl,rfl⟩:=hbe
     have hkq:=Hk.out _ (List.getElem_mem hJl)
     have hgd:l.getD (i - 1) (0,0)=l[J]:=by rw [←hJ,List.getD_eq_getElem?_getD,List.getElem?_eq_getElem hJl];rfl
     obtain ⟨q,hq⟩:∃ q,q=l[J]:=⟨_,rfl⟩
     rw [←hq] at hr2 hkq hgd
     have hrq:wr.rangeAt b (off+J*8) (wcs q.1):=fun j v hv=>hr2 j v (by
      unfold spc
      rw [List.getElem?_append_left (by have:=(List.getElem?_eq_some_iff.1 hv).1;exact this)];exact hv)
     have hok2:okS l i=decide (q.1<p.1):=by
      unfold okS
      rw [hli]
      simp only [hgd]
      have:(p.2 != 0)=true:=by simpa using hv
      have h2:(i==0)=false:=by simpa using hi0
      rw [this,h2];simp
     obtain ⟨xl,hxl⟩:∃ x,x=decide (q.1<p.1):=⟨_,rfl⟩
     have cc2:∀ u:World,Calls Tryz.prog 79 #[.agg (wcs q.1).toArray,.agg Y.toArray] u (fun e w'=>e=.returned (.bool xl)∧Below u.heap.size u w'):=fun u=>by rw [hY,hxl];exact less_any q.1 p.1 hkq.1 hkp.1 u
     rw [←hxl] at hok2
     obtain ⟨V,hV⟩:∃ V,V=wcs q.1:=⟨_,rfl⟩
     have hlV:V.length=4:=by rw [hV];rfl
     rw [←hV] at hrq cc2
     have RQ:=Lib.hid hrq
     have Hok2:=Lib.hid hok2
     clear hxl hok2 hrq hr2 hgd hV hq hkq hJ hp hY hZ hkp hli qq
     cases xl with
     | true =>
      have Cc:=Lib.hid cc2
      have Hgood:=Lib.hid (show okS l i=true from Hok2.out)
      clear hv hil cc2 hJl
      go_upto_region 4 with fail
      refine wp_region_typed wr 29 (by kernel_rfl) (by kernel_rfl) (Below.refl _ _) ?_;simp only [List.take_succ_cons,List.take_zero,List.take_nil]
      iterate 5 (refine wpX_step (by rfl) (fun K hK=>?_);go_simp;first|(refine hK _ ?_;clear hK K)|(apply Exists.intro;refine ⟨fun _=>?_,hK _ ?_⟩;fail;clear hK K))
      (refine wpX_step (by rfl) (fun K hK=>?_);rw [if_pos (by rfl)];refine ⟨_,fun u=>const_loadm _ (.tmp 14) (by rfl) _ _ (by rfl) aggWord hlZ (rangeAt.ext RZ.out u),hK _ ?_⟩;clear hK K;simp only [Act.put,List.setIfInBounds_toArray,List.set_cons_zero,List.set_cons_succ])
      (refine wpX_step (by rfl) (fun K hK=>?_);go_simp;first|(refine hK _ ?_;clear hK K)|(apply Exists.intro;refine ⟨fun _=>?_,hK _ ?_⟩;fail;clear hK K))
      (refine wpX_step (by rfl) (fun K hK=>?_);rw [if_pos (by rfl)];refine ⟨_,fun u=>const_eql _ _ _ _ (by rfl) (by rfl) (by rfl) (fun o1 o2 w1=>Gq.out o1 o2 w1) (fun w1=>Qq.out w1),hK _ ?_⟩;clear hK K;simp only [Act.put,List.setIfInBounds_toArray,List.set_cons_zero,List.set_cons_succ])
      iterate 10 (refine wpX_step (by rfl) (fun K hK=>?_);go_simp;first|(refine hK _ ?_;clear hK K)|(apply Exists.intro;refine ⟨fun _=>?_,hK _ ?_⟩;fail;clear hK K))
      (refine wpX_step (by rfl) (fun K hK=>?_);rw [if_pos (by rfl)];refine ⟨_,fun u=>const_loadm _ (.tmp 27) (by rfl) _ _ (by rfl) aggWord hlV (rangeAt.ext RQ.out u),hK _ ?_⟩;clear hK K;simp only [Act.put,List.setIfInBounds_toArray,List.set_cons_zero,List.set_cons_succ])
      iterate 5 (refine wpX_step (by rfl) (fun K hK=>?_);go_simp;first|(refine hK _ ?_;clear hK K)|(apply Exists.intro;refine ⟨fun _=>?_,hK _ ?_⟩;fail;clear hK K))
      (refine wpX_step (by rfl) (fun K hK=>?_);rw [if_pos (by rfl)];refine ⟨_,fun u=>const_loadm _ (.tmp 33) (by rfl) _ _ (by rfl) aggWord hlY (rangeAt.ext RY.out u),hK _ ?_⟩;clear hK K;simp only [Act.put,List.setIfInBounds_toArray,List.set_cons_zero,List.set_cons_succ])
      (refine wpX_step (by rfl) (fun K hK=>?_);go_simp;first|(refine hK _ ?_;clear hK K)|(apply Exists.intro;refine ⟨fun _=>?_,hK _ ?_⟩;exact Cc.out _;clear hK K))
      iterate 3 (refine wpX_step (by rfl) (fun K hK=>?_);go_simp;first|(refine hK _ ?_;clear hK K)|(apply Exists.intro;refine ⟨fun _=>?_,hK _ ?_⟩;fail;clear hK K))
      refine wpX_nil ?_
      intro y5 b5
      change forallRel y5 [] _ _
      simp only [forallRel,List.drop_succ_cons,List.drop_zero,List.drop_nil]
      go_wp2_with fail
      go_roundw
      case rel=>exact ⟨i+1,by omega,by go_num,Below.then hbel b5,Lib.hid (fun j hj=>by
       by_cases hji:j=i
       ·rw [hji];exact Hgood.out
       ·exact hok.out j (by omega))⟩
      case measure=>simp [intOf];omega
     | false =>
      have Cc:=Lib.hid cc2
      have Hres:=Lib.hid (show slotsB l=false from all_stop hil (show okS l i=false from Hok2.out))
      clear hv hil cc2 hJl
      go_upto_region 4 with fail
      refine wp_region_typed wr 29 (by kernel_rfl) (by kernel_rfl) (Below.refl _ _) ?_;simp only [List.take_succ_cons,List.take_zero,List.take_nil]
      iterate 5 (refine wpX_step (by rfl) (fun K hK=>?_);go_simp;first|(refine hK _ ?_;clear hK K)|(apply Exists.intro;refine ⟨fun _=>?_,hK _ ?_⟩;fail;clear hK K))
      (refine wpX_step (by rfl) (fun K hK=>?_);rw [if_pos (by rfl)];refine ⟨_,fun u=>const_loadm _ (.tmp 14) (by rfl) _ _ (by rfl) aggWord hlZ (rangeAt.ext RZ.out u),hK _ ?_⟩;clear hK K;simp only [Act.put,List.setIfInBounds_toArray,List.set_cons_zero,List.set_cons_succ])
      (refine wpX_step (by rfl) (fun K hK=>?_);go_simp;first|(refine hK _ ?_;clear hK K)|(apply Exists.intro;refine ⟨fun _=>?_,hK _ ?_⟩;fail;clear hK K))
      (refine wpX_step (by rfl) (fun K hK=>?_);rw [if_pos (by rfl)];refine ⟨_,fun u=>const_eql _ _ _ _ (by rfl) (by rfl) (by rfl) (fun o1 o2 w1=>Gq.out o1 o2 w1) (fun w1=>Qq.out w1),hK _ ?_⟩;clear hK K;simp only [Act.put,List.setIfInBounds_toArray,List.set_cons_zero,List.set_cons_succ])
      iterate 10 (refine wpX_step (by rfl) (fun K hK=>?_);go_simp;first|(refine hK _ ?_;clear hK K)|(apply Exists.intro;refine ⟨fun _=>?_,hK _ ?_⟩;fail;clear hK K))
      (refine wpX_step (by rfl) (fun K hK=>?_);rw [if_pos (by rfl)];refine ⟨_,fun u=>const_loadm _ (.tmp 27) (by rfl) _ _ (by rfl) aggWord hlV (rangeAt.ext RQ.out u),hK _ ?_⟩;clear hK K;simp only [Act.put,List.setIfInBounds_toArray,List.set_cons_zero,List.set_cons_succ])
      iterate 5 (refine wpX_step (by rfl) (fun K hK=>?_);go_simp;first|(refine hK _ ?_;clear hK K)|(apply Exists.intro;refine ⟨fun _=>?_,hK _ ?_⟩;fail;clear hK K))
      (refine wpX_step (by rfl) (fun K hK=>?_);rw [if_pos (by rfl)];refine ⟨_,fun u=>const_loadm _ (.tmp 33) (by rfl) _ _ (by rfl) aggWord hlY (rangeAt.ext RY.out u),hK _ ?_⟩;clear hK K;simp only [Act.put,List.setIfInBounds_toArray,List.set_cons_zero,List.set_cons_succ])
      (refine wpX_step (by rfl) (fun K hK=>?_);go_simp;first|(refine hK _ ?_;clear hK K)|(apply Exists.intro;refine ⟨fun _=>?_,hK _ ?_⟩;exact Cc.out _;clear hK K))
      iterate 3 (refine wpX_step (by rfl) (fun K hK=>?_);go_simp;first|(refine hK _ ?_;clear hK K)|(apply Exists.intro;refine ⟨fun _=>?_,hK _ ?_⟩;fail;clear hK K))
      refine wpX_nil ?_
      intro y5 b5
      change forallRel y5 [] _ _
      simp only [forallRel,List.drop_succ_cons,List.drop_zero,List.drop_nil]
      go_wp2_with fail
      go_ret
      have he:E=1:=by rw [HE.out,Hres.out];rfl
      exact ⟨by rw [he];rfl,Below.then (Below.then hbel0 hbel) b5⟩
  ·obtain rfl:i=n:=by omega
   have hz:¬ (i:Int)<(i:Int):=by omega
   have Hres:=Lib.hid (show slotsB l=true from all_end (fun j hj=>hok.out j (by rw [←Hn.out];exact hj)))
   by_cases hlong:1024<cn
   ·have hc:(1024:Int)<(cn:Int):=by omega
    go_wp2_with fail
    go_ret
    have he:E=2:=by rw [HE.out,Hres.out,if_pos rfl,if_pos hlong]
    exact ⟨by rw [he];rfl,Below.then hbel0 hbel⟩
   ·have hc:¬ (1024:Int)<(cn:Int):=by omega
    go_wp2_with fail
    go_ret
    have he:E=0:=by rw [HE.out,Hres.out,if_pos rfl,if_neg hlong]
    exact ⟨by rw [he];rfl,Below.then hbel0 hbel⟩
end Go.Proofs.YtcgpjceopnfahaaGreat
