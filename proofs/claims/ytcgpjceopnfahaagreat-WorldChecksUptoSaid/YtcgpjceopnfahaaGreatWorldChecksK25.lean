/- Addresses in order: bytes.Compare, world.before. | Accounts and holders; world.before, none, slotsRight. | world.none, slotsRight. | world.slotsRight. | Pairs i -/
import Derived.Test.YtcgpjceopnfahaaGreatWorldChecksK09
import Derived.Test.YtcgpjceopnfahaaGreatWorldChecksK24
import Derived.Deep.Cut
import Derived.Lib.Bytealg
import Derived.Laws.Externs
import Derived.Test.YtcgpjceopnfahaaGreatWorldChecksK17
import Derived.Test.YtcgpjceopnfahaaGreatWorldChecksK05
import Derived.Test.YtcgpjceopnfahaaGreatWorldChecksK11
import Derived.Test.YtcgpjceopnfahaaGreatWorldChecksK01
set_option linter.unusedSimpArgs false
set_option linter.unusedVariables false
set_option maxHeartbeats 4000000
set_option maxRecDepth 100000
namespace Go.Proofs.YtcgpjceopnfahaaGreat
open Go.RowKit
structure Acc where
 n:Nat
 m:Nat
 cv:Value
 c:List UInt8
 sv:Value
 s:List (Nat × Nat)
structure Acc.Ok (a:Acc):Prop where
 n:a.n<18446744073709551616
 m:a.m<W256
 s:∀ p∈a.s,p.1<W256∧p.2<W256
def accs (a:Acc):List Value:=[u64v a.n]++(wcs a.m++[a.cv,a.sv])
def Acc.In (w:World)(a:Acc):Prop:=Bytes w a.cv a.c∧RowOf spc 8 w a.sv a.s
theorem Acc.In.below {w w':World}{a:Acc}(h:a.In w)(hb:Below w.heap.size w w'):a.In w':=⟨h.1.below hb,h.2.below hb⟩
def Acc.val (a:Acc):Nat × Nat × List UInt8 × List (Nat × Nat):=(a.n,a.m,a.c,a.s)
theorem aggAcc:Agg Tryz.prog 28 7:=⟨_,Tryz.underlying28,rfl,by kernel_rfl⟩
theorem aggSlot:Agg Tryz.prog 102 8:=⟨_,Tryz.underlying102,rfl,by kernel_rfl⟩
def okS (l:List (Nat × Nat))(i:Nat):Bool:=match l[i]? with
 | some p=>p.2 != 0&&(i==0 || decide ((l.getD (i - 1) (0,0)).1<p.1))
 | none=>true
def slotsB (l:List (Nat × Nat)):Bool:=(List.range l.length).all (okS l)
theorem all_stop {f:Nat→Bool}{n i:Nat}(hi:i<n)(h:f i=false):(List.range n).all f=false:=by
 rw [List.all_eq_false]
 exact ⟨i,List.mem_range.2 hi,by rw [h];simp⟩
theorem all_end {f:Nat→Bool}{n:Nat}(h:∀ i,i<n→f i=true):(List.range n).all f=true:=by
 rw [List.all_eq_true]
 exact fun i hi=>h i (List.mem_range.1 hi)
theorem addr_row {u:World}{g:Nat}{A:List UInt8}(h:Blk 41 u g (by8 A))(hA:A.length=8):Bytes u (.slice (some ⟨g,0,none⟩) 8 8) A :=
 Blk.row (f:=b8) (size:=1) h A 8 8 (fun _=>rfl) hA (fun j x hx=>by rw [flat_b8] at hx;exact hx) (Nat.le_refl _) (by unfold maxLen;omega)
theorem wpList_eqlW {P:Program}{w:World}{ops:Array Oper}{rest:List Oper}{o:Oper}{a:Act}{Q:Exit→Act→World→Prop}(ty:TypeId)(x y:Operand)(t:TypeId)(ho:o.op=.binOp .eql ty x y t){v v' u:Value}(hx:a.eval x=v)(hy:a.eval y=v')
  (hg:∀ o1 o2 w1,(eqGuard .eql ty o1 o2 v v').run P w1=.ok () w1) (hq:∀ w1,(binOp .eql ty v v').run P w1=.ok u w1) (hw:Region.wanted o (yielded ops a.tmps)=true) (h:wpList P ops Q rest (a.put o.dst u) w):wpList P ops Q (o::rest) a w:=by
 refine wpList_step fun K hK=>?_
 rw [if_pos hw]
 unfold Oper.wp execOp
 simp only [ho,hx,hy,Sem.run_bind,hg,hq,Result.andThen_ok,Sem.run_pure]
 exact hK _ _ h
theorem acc_parts {w:World}{a:Acc}(h:a.In w):∃ ca cc sa sc,a.cv=.slice ca a.c.length cc∧a.sv=.slice sa a.s.length sc:=by
 obtain ⟨ca,cc,h1,_⟩:=RowOf.form (f:=b8) (size:=1) h.1
 obtain ⟨sa,sc,h2,_⟩:=h.2.form
 exact ⟨ca,cc,sa,sc,h1,h2⟩
theorem cmp_ge (A B:Nat):(0≤cmpI A B)↔¬ A<B:=by
 unfold cmpI
 split
 ·omega
 ·split<;>omega
theorem slotsRight_any (a:Option Addr)(n c:Nat)(l:List (Nat × Nat))(hn:l.length=n)(hk:∀ p∈l,p.1<W256∧p.2<W256)(w:World)(h:RowOf spc 8 w (.slice a n c) l) :
  Calls Tryz.prog 34 #[.slice a n c] w fun e w'=>e=.returned (.bool (slotsB l))∧Below w.heap.size w w':=by
 have Hn:=Lib.hid hn
 have Hk:=Lib.hid hk
 have hsm:=h.small
 unfold maxLen at hsm
 rw [hn] at hsm
 clear hn hk
 go_enter Tryz.func34,Tryz.ntmps34
 go_wp2_with fail
 go_loopw [7] (fun ix wr=>∃ i:Nat,i≤n∧ix=.int .i64 (i:Int)∧Below w.heap.size w wr∧Hid (∀ j,j<i→okS l j=true)) (fun ix _=>n - (intOf ix).toNat)
 case atStart=>exact ⟨0,by omega,rfl,Below.refl _ _,Lib.hid (fun j hj=>by omega)⟩
 case round =>
  obtain ⟨i,hin,rfl,hbel,hok⟩:=hrel
  by_cases hlt:i<n
  ·have hz:(i:Int)<(n:Int):=by omega
   have hil:i<l.length:=by rw [Hn.out];exact hlt
   obtain ⟨b,off,rfl,hr⟩:=RowOf.range spc_len (h.below hbel) i hil
   have hkp:=Hk.out _ (List.getElem_mem hil)
   obtain ⟨p,hp⟩:∃ p,p=l[i]:=⟨_,rfl⟩
   rw [←hp] at hr hkp
   have hli:l[i]?=some p:=by rw [hp];exact List.getElem?_eq_getElem hil
   obtain ⟨P8,hP8⟩:∃ P,P=spc p:=⟨_,rfl⟩
   have hl8:P8.length=8:=by rw [hP8];rfl
   have ho8:∀ u∈P8,u.oneCell'=true:=by rw [hP8];exact spc_one p
   have hr4:∀ u x,Blk 102 u x P8→u.rangeAt x 0 (wcs p.1)∧u.rangeAt x 4 (wcs p.2):=fun u x h=>by
    rw [hP8] at h
    exact ⟨by have:=h.range 0 4;exact this,by have:=h.range 4 4;exact this⟩
   rw [←hP8] at hr
   have gq:=fun o1 o2 w1=>guardWN p.2 0 o1 o2 w1
   have qq:=fun w1=>eqWN p.2 0 hkp.2 (by unfold W256;omega) w1
   rw [wz0] at gq qq
   obtain ⟨Y,hY⟩:∃ Y,Y=wcs p.1:=⟨_,rfl⟩
   obtain ⟨Z,hZ⟩:∃ Z,Z=wcs p.2:=⟨_,rfl⟩
   have hlY:Y.length=4:=by rw [hY];rfl
   have hlZ:Z.length=4:=by rw [hZ];rfl
   rw [←hY,←hZ] at hr4
   rw [←hZ] at gq qq
   have Hr4:=Lib.hid hr4
   have Gq:=Lib.hid gq
   have n4:=Blk.newA wr 102 z8s.toArray
   have hb4:Below wr.heap.size wr (wr.alloc (.cells z8s.toArray 102)):=(Below.refl _ _).alloc (Nat.le_refl _) _
   clear hr4 gq
   by_cases hv:p.2=0
   ·rw [decide_eq_true hv] at qq
    have Qq:=Lib.hid qq
    have hbad:okS l i=false:=by unfold okS;rw [hli];simp [hv]
    have Hres:=Lib.hid (show slotsB l=false from all_stop hil hbad)
    clear qq hv hbad hli hp hP8 hY hZ hkp hil
    go_upto_region 4 with (first
     |((with_reducible show wpList _ _ _ (⟨some 11,_,_,_,_,_⟩::_) _ _);refine wpList_loadW (o:=⟨some 11,_,_,_,_,_⟩) 102 (.tmp 10) (by rfl) b (off+i*8) (by rfl) aggSlot hl8 hr (by rfl) ?_)
     |((with_reducible show wpList _ _ _ (⟨none,.store _ _ (.tmp 11),_,_,_,_⟩::_) _ _);refine wpList_storeA (o:=⟨none,_,_,_,_,_⟩) (by rfl) 102 (.tmp 4) (.tmp 11) (by rfl) wr.heap.size P8 (by rfl) (by rfl) aggSlot n4 hl8 (by rfl) ho8 hb4 (Nat.le_refl _) ?_;intro w2 z2 b2 _))
    have R2:=Lib.hid (Hr4.out _ _ z2)
    refine wp_region_typed w2 19 (by kernel_rfl) (by kernel_rfl) (Below.refl _ _) ?_;simp only [List.take_succ_cons,List.take_zero,List.take_nil]
    (refine wpX_step (by rfl) (fun K hK=>?_);go_simp;first|(refine hK _ ?_;clear hK K)|(apply Exists.intro;refine ⟨fun _=>?_,hK _ ?_⟩;fail;clear hK K))
    (refine wpX_step (by rfl) (fun K hK=>?_);rw [if_pos (by rfl)];refine ⟨_,fun u=>const_loadm _ (.tmp 12) (by rfl) _ _ (by rfl) aggWord hlZ (rangeAt.ext R2.out.2 u),hK _ ?_⟩;clear hK K;simp only [Act.put,List.setIfInBounds_toArray,List.set_cons_zero,List.set_cons_succ])
    (refine wpX_step (by rfl) (fun K hK=>?_);go_simp;first|(refine hK _ ?_;clear hK K)|(apply Exists.intro;refine ⟨fun _=>?_,hK _ ?_⟩;fail;clear hK K))
    (refine wpX_step (by rfl) (fun K hK=>?_);rw [if_pos (by rfl)];refine ⟨_,fun u=>const_eql _ _ _ _ (by rfl) (by rfl) (by rfl) (fun o1 o2 w1=>Gq.out o1 o2 w1) (fun w1=>Qq.out w1),hK _ ?_⟩;clear hK K;simp only [Act.put,List.setIfInBounds_toArray,List.set_cons_zero,List.set_cons_succ])
    iterate 15 (refine wpX_step (by rfl) (fun K hK=>?_);go_simp;first|(refine hK _ ?_;clear hK K)|(apply Exists.intro;refine ⟨fun _=>?_,hK _ ?_⟩;fail;clear hK K))
    refine wpX_nil ?_
    intro y5 b5
    change wpList _ _ _ [_] _ _
    try simp only [Act.put,List.setIfInBounds_toArray,List.set_cons_zero,List.set_cons_succ]
    go_wp2_with fail
    go_ret
    rw [Hres.out]
    exact ⟨rfl,Below.then (Below.then hbel b2) b5⟩
   ·rw [decide_eq_false hv] at qq
    have Qq:=Lib.hid qq
    by_cases hi0:i=0
    ·have hi1:¬ 0<i:=by omega
     have hd1:decide (0<i)=false:=decide_eq_false hi1
     have hgood:okS l i=true:=by unfold okS;rw [hli,hi0];simp [hv]
     have hi0':=Lib.hid hi0
     have Hgood:=Lib.hid hgood
     clear qq hv hgood hli hp hP8 hY hZ hkp hil hi0
     go_upto_region 4 with (first
      |((with_reducible show wpList _ _ _ (⟨some 11,_,_,_,_,_⟩::_) _ _);refine wpList_loadW (o:=⟨some 11,_,_,_,_,_⟩) 102 (.tmp 10) (by rfl) b (off+i*8) (by rfl) aggSlot hl8 hr (by rfl) ?_)
      |((with_reducible show wpList _ _ _ (⟨none,.store _ _ (.tmp 11),_,_,_,_⟩::_) _ _);refine wpList_storeA (o:=⟨none,_,_,_,_,_⟩) (by rfl) 102 (.tmp 4) (.tmp 11) (by rfl) wr.heap.size P8 (by rfl) (by rfl) aggSlot n4 hl8 (by rfl) ho8 hb4 (Nat.le_refl _) ?_;intro w2 z2 b2 _))
     have R2:=Lib.hid (Hr4.out _ _ z2)
     refine wp_region_typed w2 19 (by kernel_rfl) (by kernel_rfl) (Below.refl _ _) ?_;simp only [List.take_succ_cons,List.take_zero,List.take_nil]
     (refine wpX_step (by rfl) (fun K hK=>?_);go_simp;first|(refine hK _ ?_;clear hK K)|(apply Exists.intro;refine ⟨fun _=>?_,hK _ ?_⟩;fail;clear hK K))
     (refine wpX_step (by rfl) (fun K hK=>?_);rw [if_pos (by rfl)];refine ⟨_,fun u=>const_loadm _ (.tmp 12) (by rfl) _ _ (by rfl) aggWord hlZ (rangeAt.ext R2.out.2 u),hK _ ?_⟩;clear hK K;simp only [Act.put,List.setIfInBounds_toArray,List.set_cons_zero,List.set_cons_succ])
     (refine wpX_step (by rfl) (fun K hK=>?_);go_simp;first|(refine hK _ ?_;clear hK K)|(apply Exists.intro;refine ⟨fun _=>?_,hK _ ?_⟩;fail;clear hK K))
     (refine wpX_step (by rfl) (fun K hK=>?_);rw [if_pos (by rfl)];refine ⟨_,fun u=>const_eql _ _ _ _ (by rfl) (by rfl) (by rfl) (fun o1 o2 w1=>Gq.out o1 o2 w1) (fun w1=>Qq.out w1),hK _ ?_⟩;clear hK K;simp only [Act.put,List.setIfInBounds_toArray,List.set_cons_zero,List.set_cons_succ])
     iterate 15 (refine wpX_step (by rfl) (fun K hK=>?_);go_simp;first|(refine hK _ ?_;clear hK K)|(apply Exists.intro;refine ⟨fun _=>?_,hK _ ?_⟩;fail;clear hK K))
     refine wpX_nil ?_
     intro y5 b5
     change wpList _ _ _ [_] _ _
     try simp only [Act.put,List.setIfInBounds_toArray,List.set_cons_zero,List.set_cons_succ]
     go_wp2_with fail
     go_roundw
     case rel=>exact ⟨i+1,by omega,by go_num,Below.then (Below.then hbel b2) b5,Lib.hid (fun j hj=>by
      have:j=i:=by have:=hi0'.out;omega
      rw [this];exact Hgood.out)⟩
     case measure=>simp [intOf];omega
    ·have hi1:0<i:=by omega
     have hd1:decide (0<i)=true:=decide_eq_true hi1
     obtain ⟨J,hJ⟩:∃ J,J=i - 1:=⟨_,rfl⟩
     have hJl:J<l.length:=by omega
     have hsub:IntKind.i64.wrap ((i:Int) - 1)=(J:Int):=by rw [IntWalk.i64_in _ (by omega)];omega
     have hJn:(J:Int)<(n:Int):=by omega
     have hJn2:J<n:=by omega
     obtain ⟨b2',off2',hbe,hr2⟩:=RowOf.range spc_len (h.below hbel) J hJl
     simp only [Option.some.injEq,Addr.mk.injEq,and_true] at hbe
     obtain ⟨rfl,rfl⟩:=hbe
     have hkq:=Hk.out _ (List.getElem_mem hJl)
     have hgd:l.getD (i - 1) (0,0)=l[J]:=by rw [←hJ,List.getD_eq_getElem?_getD,List.getElem?_eq_getElem hJl];rfl
     obtain ⟨q,hq⟩:∃ q,q=l[J]:=⟨_,rfl⟩
     rw [←hq] at hr2 hkq hgd
     have hrq:wr.rangeAt b (off+J*8) (wcs q.1):=fun j v hv=>hr2 j v (by
      unfold spc
      rw [List.getElem?_append_left (by have:=(List.getElem?_eq_some_iff.1 hv).1;exact this)];exact hv)
     have hok2:okS l i=decide (q.1<p.1):=by
      unfold okS
      rw [hli]
      simp only [hgd]
      have:(p.2 != 0)=true:=by simpa using hv
      have h2:(i==0)=false:=by simpa using hi0
      rw [this,h2];simp
     have cc:=fun u=>cmp_any q.1 p.1 hkq.1 hkp.1 u
     have hge:=cmp_ge q.1 p.1
     obtain ⟨r,hrr⟩:∃ r,r=cmpI q.1 p.1:=⟨_,rfl⟩
     rw [←hrr] at hge
     have cc2:∀ u:World,Calls Tryz.prog 74 #[.agg (wcs q.1).toArray,.agg Y.toArray] u (fun e w'=>e=.returned (.int .i64 r)∧Below u.heap.size u w'):=fun u=>by have:=cc u;rw [←hrr] at this;rw [hY];exact this
     obtain ⟨V,hV⟩:∃ V,V=wcs q.1:=⟨_,rfl⟩
     have hlV:V.length=4:=by rw [hV];rfl
     rw [←hV] at hrq cc2
     have Cc:=Lib.hid cc2
     have RQ:=Lib.hid hrq
     by_cases hcm:q.1<p.1
     ·have hr0:¬ (0:Int)≤r:=by rw [hge];simpa using hcm
      have hr1:decide ((0:Int)≤r)=false:=decide_eq_false hr0
      have hgood:okS l i=true:=by rw [hok2];exact decide_eq_true hcm
      have Hgood:=Lib.hid hgood
      clear qq hv hgood hli hp hP8 hY hZ hkp hil hok2 hge hrr hV hcm cc cc2 hq hkq hgd hJl hr2 hJ hrq
      go_upto_region 4 with (first
       |((with_reducible show wpList _ _ _ (⟨some 11,_,_,_,_,_⟩::_) _ _);refine wpList_loadW (o:=⟨some 11,_,_,_,_,_⟩) 102 (.tmp 10) (by rfl) b (off+i*8) (by rfl) aggSlot hl8 hr (by rfl) ?_)
       |((with_reducible show wpList _ _ _ (⟨none,.store _ _ (.tmp 11),_,_,_,_⟩::_) _ _);refine wpList_storeA (o:=⟨none,_,_,_,_,_⟩) (by rfl) 102 (.tmp 4) (.tmp 11) (by rfl) wr.heap.size P8 (by rfl) (by rfl) aggSlot n4 hl8 (by rfl) ho8 hb4 (Nat.le_refl _) ?_;intro w2 z2 b2 _))
      have R2:=Lib.hid (Hr4.out _ _ z2)
      refine wp_region_typed w2 19 (by kernel_rfl) (by kernel_rfl) (Below.refl _ _) ?_;simp only [List.take_succ_cons,List.take_zero,List.take_nil]
      (refine wpX_step (by rfl) (fun K hK=>?_);go_simp;first|(refine hK _ ?_;clear hK K)|(apply Exists.intro;refine ⟨fun _=>?_,hK _ ?_⟩;fail;clear hK K))
      (refine wpX_step (by rfl) (fun K hK=>?_);rw [if_pos (by rfl)];refine ⟨_,fun u=>const_loadm _ (.tmp 12) (by rfl) _ _ (by rfl) aggWord hlZ (rangeAt.ext R2.out.2 u),hK _ ?_⟩;clear hK K;simp only [Act.put,List.setIfInBounds_toArray,List.set_cons_zero,List.set_cons_succ])
      (refine wpX_step (by rfl) (fun K hK=>?_);go_simp;first|(refine hK _ ?_;clear hK K)|(apply Exists.intro;refine ⟨fun _=>?_,hK _ ?_⟩;fail;clear hK K))
      (refine wpX_step (by rfl) (fun K hK=>?_);rw [if_pos (by rfl)];refine ⟨_,fun u=>const_eql _ _ _ _ (by rfl) (by rfl) (by rfl) (fun o1 o2 w1=>Gq.out o1 o2 w1) (fun w1=>Qq.out w1),hK _ ?_⟩;clear hK K;simp only [Act.put,List.setIfInBounds_toArray,List.set_cons_zero,List.set_cons_succ])
      iterate 9 (refine wpX_step (by rfl) (fun K hK=>?_);go_simp;first|(refine hK _ ?_;clear hK K)|(apply Exists.intro;refine ⟨fun _=>?_,hK _ ?_⟩;fail;clear hK K))
      (refine wpX_step (by rfl) (fun K hK=>?_);rw [if_pos (by rfl)];refine ⟨_,fun u=>const_loadm _ (.tmp 24) (by rfl) _ _ (by rfl) aggWord hlV (rangeAt.ext (World.rangeAt.below RQ.out b2) u),hK _ ?_⟩;clear hK K;simp only [Act.put,List.setIfInBounds_toArray,List.set_cons_zero,List.set_cons_succ])
      (refine wpX_step (by rfl) (fun K hK=>?_);go_simp;first|(refine hK _ ?_;clear hK K)|(apply Exists.intro;refine ⟨fun _=>?_,hK _ ?_⟩;fail;clear hK K))
      (refine wpX_step (by rfl) (fun K hK=>?_);rw [if_pos (by rfl)];refine ⟨_,fun u=>const_loadm _ (.tmp 26) (by rfl) _ _ (by rfl) aggWord hlY (rangeAt.ext R2.out.1 u),hK _ ?_⟩;clear hK K;simp only [Act.put,List.setIfInBounds_toArray,List.set_cons_zero,List.set_cons_succ])
      (refine wpX_step (by rfl) (fun K hK=>?_);go_simp;first|(refine hK _ ?_;clear hK K)|(apply Exists.intro;refine ⟨fun _=>?_,hK _ ?_⟩;exact Cc.out _;clear hK K))
      iterate 2 (refine wpX_step (by rfl) (fun K hK=>?_);go_simp;first|(refine hK _ ?_;clear hK K)|(apply Exists.intro;refine ⟨fun _=>?_,hK _ ?_⟩;fail;clear hK K))
      refine wpX_nil ?_
      intro y5 b5
      change wpList _ _ _ [_] _ _
      try simp only [Act.put,List.setIfInBounds_toArray,List.set_cons_zero,List.set_cons_succ]
      go_wp2_with fail
      go_roundw
      case rel=>exact ⟨i+1,by omega,by go_num,Below.then (Below.then hbel b2) b5,Lib.hid (fun j hj=>by
       by_cases hji:j=i
       ·rw [hji];exact Hgood.out
       ·exact hok.out j (by omega))⟩
      case measure=>simp [intOf];omega
     ·have hr0:(0:Int)≤r:=by rw [hge];exact hcm
      have hr1:decide ((0:Int)≤r)=true:=decide_eq_true hr0
      have hbad:okS l i=false:=by rw [hok2];exact decide_eq_false hcm
      have Hres:=Lib.hid (show slotsB l=false from all_stop hil hbad)
      clear qq hv hbad hli hp hP8 hY hZ hkp hil hok2 hge hrr hV hcm cc cc2 hq hkq hgd hJl hr2 hJ hrq
      go_upto_region 4 with (first
       |((with_reducible show wpList _ _ _ (⟨some 11,_,_,_,_,_⟩::_) _ _);refine wpList_loadW (o:=⟨some 11,_,_,_,_,_⟩) 102 (.tmp 10) (by rfl) b (off+i*8) (by rfl) aggSlot hl8 hr (by rfl) ?_)
       |((with_reducible show wpList _ _ _ (⟨none,.store _ _ (.tmp 11),_,_,_,_⟩::_) _ _);refine wpList_storeA (o:=⟨none,_,_,_,_,_⟩) (by rfl) 102 (.tmp 4) (.tmp 11) (by rfl) wr.heap.size P8 (by rfl) (by rfl) aggSlot n4 hl8 (by rfl) ho8 hb4 (Nat.le_refl _) ?_;intro w2 z2 b2 _))
      have R2:=Lib.hid (Hr4.out _ _ z2)
      refine wp_region_typed w2 19 (by kernel_rfl) (by kernel_rfl) (Below.refl _ _) ?_;simp only [List.take_succ_cons,List.take_zero,List.take_nil]
      (refine wpX_step (by rfl) (fun K hK=>?_);go_simp;first|(refine hK _ ?_;clear hK K)|(apply Exists.intro;refine ⟨fun _=>?_,hK _ ?_⟩;fail;clear hK K))
      (refine wpX_step (by rfl) (fun K hK=>?_);rw [if_pos (by rfl)];refine ⟨_,fun u=>const_loadm _ (.tmp 12) (by rfl) _ _ (by rfl) aggWord hlZ (rangeAt.ext R2.out.2 u),hK _ ?_⟩;clear hK K;simp only [Act.put,List.setIfInBounds_toArray,List.set_cons_zero,List.set_cons_succ])
      (refine wpX_step (by rfl) (fun K hK=>?_);go_simp;first|(refine hK _ ?_;clear hK K)|(apply Exists.intro;refine ⟨fun _=>?_,hK _ ?_⟩;fail;clear hK K))
      (refine wpX_step (by rfl) (fun K hK=>?_);rw [if_pos (by rfl)];refine ⟨_,fun u=>const_eql _ _ _ _ (by rfl) (by rfl) (by rfl) (fun o1 o2 w1=>Gq.out o1 o2 w1) (fun w1=>Qq.out w1),hK _ ?_⟩;clear hK K;simp only [Act.put,List.setIfInBounds_toArray,List.set_cons_zero,List.set_cons_succ])
      iterate 9 (refine wpX_step (by rfl) (fun K hK=>?_);go_simp;first|(refine hK _ ?_;clear hK K)|(apply Exists.intro;refine ⟨fun _=>?_,hK _ ?_⟩;fail;clear hK K))
      (refine wpX_step (by rfl) (fun K hK=>?_);rw [if_pos (by rfl)];refine ⟨_,fun u=>const_loadm _ (.tmp 24) (by rfl) _ _ (by rfl) aggWord hlV (rangeAt.ext (World.rangeAt.below RQ.out b2) u),hK _ ?_⟩;clear hK K;simp only [Act.put,List.setIfInBounds_toArray,List.set_cons_zero,List.set_cons_succ])
      (refine wpX_step (by rfl) (fun K hK=>?_);go_simp;first|(refine hK _ ?_;clear hK K)|(apply Exists.intro;refine ⟨fun _=>?_,hK _ ?_⟩;fail;clear hK K))
      (refine wpX_step (by rfl) (fun K hK=>?_);rw [if_pos (by rfl)];refine ⟨_,fun u=>const_loadm _ (.tmp 26) (by rfl) _ _ (by rfl) aggWord hlY (rangeAt.ext R2.out.1 u),hK _ ?_⟩;clear hK K;simp only [Act.put,List.setIfInBounds_toArray,List.set_cons_zero,List.set_cons_succ])
      (refine wpX_step (by rfl) (fun K hK=>?_);go_simp;first|(refine hK _ ?_;clear hK K)|(apply Exists.intro;refine ⟨fun _=>?_,hK _ ?_⟩;exact Cc.out _;clear hK K))
      iterate 2 (refine wpX_step (by rfl) (fun K hK=>?_);go_simp;first|(refine hK _ ?_;clear hK K)|(apply Exists.intro;refine ⟨fun _=>?_,hK _ ?_⟩;fail;clear hK K))
      refine wpX_nil ?_
      intro y5 b5
      change wpList _ _ _ [_] _ _
      try simp only [Act.put,List.setIfInBounds_toArray,List.set_cons_zero,List.set_cons_succ]
      go_wp2_with fail
      go_ret
      rw [Hres.out]
      exact ⟨rfl,Below.then (Below.then hbel b2) b5⟩
  ·obtain rfl:i=n:=by omega
   have hz:¬ (i:Int)<(i:Int):=by omega
   have Hres:=Lib.hid (show slotsB l=true from all_end (fun j hj=>hok.out j (by rw [←Hn.out];exact hj)))
   go_wp2_with fail
   go_ret
   rw [Hres.out]
   exact ⟨rfl,hbel⟩
theorem hash_fr {w:World}{g B:Nat}{l:List UInt8}(h:Blk 30 w g (l.map u8v))(hl:l.length=32)(hB:B≤g):FrT B l (.slice (some ⟨g,0,none⟩) 32 32) w :=
 ⟨hash_bytes h hl,fun k hk=>by simp only [Value.ownBlock,Option.some.injEq] at hk;subst hk;exact ⟨hB,h.lt⟩⟩
theorem u8_one (l:List UInt8):∀ u∈l.map u8v,u.oneCell'=true:=by
 intro u hu
 obtain ⟨x,_,rfl⟩:=List.mem_map.1 hu
 rfl
theorem sumKey_any (a:Option Addr)(n c:Nat)(l:List UInt8)(hn:l.length=n)(w:World)(h:Bytes w (.slice a n c) l)(hl:n+64≤140737488355328):Calls Tryz.prog 62 #[.slice a n c] w (WrPost (sumB l) w):=by
 have cs:=ssum_any a n c l hn w h hl
 have hSl:(sumB l).length=32:=outB_len _
 obtain ⟨SB,hSB⟩:∃ B,B=sumB l:=⟨_,rfl⟩
 rw [←hSB] at cs hSl ⊢
 have hSl2:(SB.map u8v).length=32:=by rw [List.length_map];exact hSl
 have HSo:=Lib.hid (u8_one SB)
 obtain ⟨SC,hSC⟩:∃ K,K=SB.map u8v:=⟨_,rfl⟩
 rw [←hSC] at cs hSl2 HSo
 have HSC:=Lib.hid hSC
 have Cs:=Lib.hid cs
 clear cs hSC hSB h hn
 go_enter Tryz.func62,Tryz.ntmps62
 go_wp2_with (first
  |(go_at_call 41;(with_reducible refine Cs.out.mono ?_);rintro e w5 ⟨rfl,b5⟩;have n5:=Blk.new w5 30 zh)
  |((with_reducible show wpList _ _ _ (⟨none,.store _ _ (.tmp 5),_,_,_,_⟩::_) _ _);refine wpList_storeA (o:=⟨none,_,_,_,_,_⟩) (by rfl) 30 (.tmp 3) (.tmp 5) (by rfl) w5.heap.size SC (by rfl) (by rfl) aggHash' n5 hSl2 (by rfl) HSo.out ((Below.refl w5.heap.size w5).alloc (Nat.le_refl _) _) (Nat.le_refl _) ?_;intro w6 h6 b6 _;have s6:=sl32 w5.heap.size 0 w6;have bb6:=Below.then b5 b6))
 go_ret
 exact ⟨_,rfl,hash_fr (by rw [←HSC.out];exact h6) hSl b5.size,bb6⟩
theorem bequal_any (a a':Option Addr)(n c n' c':Nat)(l l':List UInt8)(w:World)(h:Bytes w (.slice a n c) l)(h':Bytes w (.slice a' n' c') l'):Calls Tryz.prog 44 #[.slice a n c,.slice a' n' c'] w fun e w'=>e=.returned (.bool (l == l'))∧w'=w:=by
 have c1:=run_str (P:=Tryz.prog) (src:=25) (dst:=9) elU8.ht (by kernel_rfl) (by kernel_rfl) h
 have c2:=run_str (P:=Tryz.prog) (src:=25) (dst:=9) elU8.ht (by kernel_rfl) (by kernel_rfl) h'
 clear h h'
 go_enter Tryz.func44,Tryz.ntmps44
 go_wp2_with fail
 go_ret
 exact ⟨rfl,rfl⟩
theorem good_build {P:Program}{T:Ty}{o:Oper}{a:Act}{w:World}(t:TypeId)(ps:List (Nat × Operand))(ho:o.op=.build t ps.toArray)(L:List (Nat × Value))(hL:(ps.map fun x=>(x.1,a.eval x.2))=L)(cells:Array Value)(hb:P.built t L=some cells)(hT:T (.agg cells) w) :
  goodUpon P T w ((execOp a.eval o).run P w):=by
 unfold execOp
 have hb2:P.built t (ps.toArray.map fun (i,x)=>(i,a.eval x)).toList=some cells:=by
  rw [←hb,←hL]
  congr 1
  simp
 simp only [ho,Sem.run_bind,run_build w t _ cells hb2,Result.andThen_ok,Sem.run_pure]
 exact ⟨Below.refl _ _,hT⟩
end Go.Proofs.YtcgpjceopnfahaaGreat
