/- Addresses in order: bytes.Compare, world.before. | Accounts and holders; world.before, none, slotsRight. | world.none, slotsRight. | world.slotsRight. -/
import Derived.Test.YtcgpjceopnfahaaGreatWorldLeavesK20
import Derived.Test.YtcgpjceopnfahaaGreatWorldLeavesK37
import Derived.Deep.Cut
import Derived.Lib.Bytealg
import Derived.Laws.Externs
set_option linter.unusedSimpArgs false
set_option linter.unusedVariables false
set_option maxHeartbeats 4000000
set_option maxRecDepth 100000
namespace Go.Proofs.YtcgpjceopnfahaaGreat
open Go.RowKit
structure Acc where
 n:Nat
 m:Nat
 cv:Value
 c:List UInt8
 sv:Value
 s:List (Nat × Nat)
structure Acc.Ok (a:Acc):Prop where
 n:a.n<18446744073709551616
 m:a.m<W256
 s:∀ p∈a.s,p.1<W256∧p.2<W256
def accs (a:Acc):List Value:=[u64v a.n]++(wcs a.m++[a.cv,a.sv])
def Acc.In (w:World)(a:Acc):Prop:=Bytes w a.cv a.c∧RowOf spc 8 w a.sv a.s
theorem Acc.In.below {w w':World}{a:Acc}(h:a.In w)(hb:Below w.heap.size w w'):a.In w':=⟨h.1.below hb,h.2.below hb⟩
theorem aggAcc:Agg Tryz.prog 28 7:=⟨_,Tryz.underlying28,rfl,by kernel_rfl⟩
theorem Q2p:Agg Tryz.prog 102 8:=⟨_,Tryz.underlying102,rfl,by kernel_rfl⟩
def okS (l:List (Nat × Nat))(i:Nat):Bool:=match l[i]? with
 | some p=>p.2 != 0&&(i==0 || decide ((l.getD (i - 1) (0,0)).1<p.1))
 | none=>true
def slotsB (l:List (Nat × Nat)):Bool:=(List.range l.length).all (okS l)
theorem Q5u {f:Nat→Bool}{n i:Nat}(hi:i<n)(h:f i=false):(List.range n).all f=false:=by
 rw [List.all_eq_false]
 exact ⟨i,List.mem_range.2 hi,by rw [h];simp⟩
theorem Qj5 {f:Nat→Bool}{n:Nat}(h:∀ i,i<n→f i=true):(List.range n).all f=true:=by
 rw [List.all_eq_true]
 exact fun i hi=>h i (List.mem_range.1 hi)
theorem Q79 {w:World}{a:Acc}(h:a.In w):∃ ca cc sa sc,a.cv=.slice ca a.c.length cc∧a.sv=.slice sa a.s.length sc:=by
 obtain ⟨ca,cc,h1,_⟩:=RowOf.form (f:=b8) (size:=1) h.1
 obtain ⟨sa,sc,h2,_⟩:=h.2.form
 exact ⟨ca,cc,sa,sc,h1,h2⟩
theorem cmp_ge (A B:Nat):(0≤cmpI A B)↔¬ A<B:=by
 unfold cmpI
 split
 ·omega
 ·split<;>omega
theorem Q7d (a:Option Addr)(n c:Nat)(l:List (Nat × Nat))(hn:l.length=n)(hk:∀ p∈l,p.1<W256∧p.2<W256)(w:World)(h:RowOf spc 8 w (.slice a n c) l) :
  Calls Tryz.prog 34 #[.slice a n c] w fun e w'=>e=.returned (.bool (slotsB l))∧Below w.heap.size w w':=by
 have Hn:=Lib.hid hn
 have Hk:=Lib.hid hk
 have hsm:=h.small
 unfold maxLen at hsm
 rw [hn] at hsm
 clear hn hk
 go_enter Tryz.func34,Tryz.ntmps34
 go_wp2_with fail
 go_loopw [7] (fun ix wr=>∃ i:Nat,i≤n∧ix=.int .i64 (i:Int)∧Below w.heap.size w wr∧Hid (∀ j,j<i→okS l j=true)) (fun ix _=>n - (intOf ix).toNat)
 case atStart=>exact ⟨0,by omega,rfl,Below.refl _ _,Lib.hid (fun j hj=>by omega)⟩
 case round =>
  obtain ⟨i,hin,rfl,hbel,hok⟩:=hrel
  by_cases hlt:i<n
  ·have hz:(i:Int)<(n:Int):=by omega
   have hil:i<l.length:=by rw [Hn.out];exact hlt
   obtain ⟨b,off,rfl,hr⟩:=RowOf.range Q42 (h.below hbel) i hil
   have hkp:=Hk.out _ (List.getElem_mem hil)
   obtain ⟨p,hp⟩:∃ p,p=l[i]:=⟨_,rfl⟩
   rw [←hp] at hr hkp
   have hli:l[i]?=some p:=by rw [hp];exact List.getElem?_eq_getElem hil
   obtain ⟨P8,hP8⟩:∃ P,P=spc p:=⟨_,rfl⟩
   have hl8:P8.length=8:=by rw [hP8];rfl
   have ho8:∀ u∈P8,u.oneCell'=true:=by rw [hP8];exact Qlg p
   have hr4:∀ u x,Blk 102 u x P8→u.rangeAt x 0 (wcs p.1)∧u.rangeAt x 4 (wcs p.2):=fun u x h=>by
    rw [hP8] at h
    exact ⟨by have:=h.range 0 4;exact this,by have:=h.range 4 4;exact this⟩
   rw [←hP8] at hr
   have gq:=fun o1 o2 w1=>Qij p.2 0 o1 o2 w1
   have qq:=fun w1=>eqWN p.2 0 hkp.2 (by unfold W256;omega) w1
   rw [wz0] at gq qq
   obtain ⟨Y,hY⟩:∃ Y,Y=wcs p.1:=⟨_,rfl⟩
   obtain ⟨Z,hZ⟩:∃ Z,Z=wcs p.2:=⟨_,rfl⟩
   have hlY:Y.length=4:=by rw [hY];rfl
   have hlZ:Z.length=4:=by rw [hZ];rfl
   rw [←hY,←hZ] at hr4
   rw [←hZ] at gq qq
   have Hr4:=Lib.hid hr4
   have Gq:=Lib.hid gq
   have n4:=Blk.newA wr 102 z8s.toArray
   have hb4:Below wr.heap.size wr (wr.alloc (.cells z8s.toArray 102)):=(Below.refl _ _).alloc (Nat.le_refl _) _
   clear hr4 gq
   by_cases hv:p.2=0
   ·rw [decide_eq_true hv] at qq
    have Qq:=Lib.hid qq
    have hbad:okS l i=false:=by unfold okS;rw [hli];simp [hv]
    have Hres:=Lib.hid (show slotsB l=false from Q5u hil hbad)
    clear qq hv hbad hli hp hP8 hY hZ hkp hil
    go_upto_region 4 with (first
     |((with_reducible show wpList _ _ _ (⟨some 11,_,_,_,_,_⟩::_) _ _);refine Q07 (o:=⟨some 11,_,_,_,_,_⟩) 102 (.tmp 10) (by rfl) b (off+i*8) (by rfl) Q2p hl8 hr (by rfl) ?_)
     |((with_reducible show wpList _ _ _ (⟨none,.store _ _ (.tmp 11),_,_,_,_⟩::_) _ _);refine Q00 (o:=⟨none,_,_,_,_,_⟩) (by rfl) 102 (.tmp 4) (.tmp 11) (by rfl) wr.heap.size P8 (by rfl) (by rfl) Q2p n4 hl8 (by rfl) ho8 hb4 (Nat.le_refl _) ?_;intro w2 z2 b2 _))
    have R2:=Lib.hid (Hr4.out _ _ z2)
    refine Q03 w2 19 (by kernel_rfl) (by kernel_rfl) (Below.refl _ _) ?_;simp only [List.take_succ_cons,List.take_zero,List.take_nil]
    (refine Q02 (by rfl) (fun K hK=>?_);go_simp;first|(refine hK _ ?_;clear hK K)|(apply Exists.intro;refine ⟨fun _=>?_,hK _ ?_⟩;fail;clear hK K))
    (refine Q02 (by rfl) (fun K hK=>?_);rw [if_pos (by rfl)];refine ⟨_,fun u=>Q0d _ (.tmp 12) (by rfl) _ _ (by rfl) Q0g hlZ (rangeAt.ext R2.out.2 u),hK _ ?_⟩;clear hK K;simp only [Act.put,List.setIfInBounds_toArray,List.set_cons_zero,List.set_cons_succ])
    (refine Q02 (by rfl) (fun K hK=>?_);go_simp;first|(refine hK _ ?_;clear hK K)|(apply Exists.intro;refine ⟨fun _=>?_,hK _ ?_⟩;fail;clear hK K))
    (refine Q02 (by rfl) (fun K hK=>?_);rw [if_pos (by rfl)];refine ⟨_,fun u=>Q1h _ _ _ _ (by rfl) (by rfl) (by rfl) (fun o1 o2 w1=>Gq.out o1 o2 w1) (fun w1=>Qq.out w1),hK _ ?_⟩;clear hK K;simp only [Act.put,List.setIfInBounds_toArray,List.set_cons_zero,List.set_cons_succ])
    iterate 15 (refine Q02 (by rfl) (fun K hK=>?_);go_simp;first|(refine hK _ ?_;clear hK K)|(apply Exists.intro;refine ⟨fun _=>?_,hK _ ?_⟩;fail;clear hK K))
    refine Q0e ?_
    intro y5 b5
    change wpList _ _ _ [_] _ _
    try simp only [Act.put,List.setIfInBounds_toArray,List.set_cons_zero,List.set_cons_succ]
    go_wp2_with fail
    go_ret
    rw [Hres.out]
    exact ⟨rfl,Below.then (Below.then hbel b2) b5⟩
   ·rw [decide_eq_false hv] at qq
    have Qq:=Lib.hid qq
    by_cases hi0:i=0
    ·have hi1:¬ 0<i:=by omega
     have hd1:decide (0<i)=false:=decide_eq_false hi1
     have hgood:okS l i=true:=by unfold okS;rw [hli,hi0];simp [hv]
     have hi0':=Lib.hid hi0
     have Hgood:=Lib.hid hgood
     clear qq hv hgood hli hp hP8 hY hZ hkp hil hi0
     go_upto_region 4 with (first
      |((with_reducible show wpList _ _ _ (⟨some 11,_,_,_,_,_⟩::_) _ _);refine Q07 (o:=⟨some 11,_,_,_,_,_⟩) 102 (.tmp 10) (by rfl) b (off+i*8) (by rfl) Q2p hl8 hr (by rfl) ?_)
      |((with_reducible show wpList _ _ _ (⟨none,.store _ _ (.tmp 11),_,_,_,_⟩::_) _ _);refine Q00 (o:=⟨none,_,_,_,_,_⟩) (by rfl) 102 (.tmp 4) (.tmp 11) (by rfl) wr.heap.size P8 (by rfl) (by rfl) Q2p n4 hl8 (by rfl) ho8 hb4 (Nat.le_refl _) ?_;intro w2 z2 b2 _))
     have R2:=Lib.hid (Hr4.out _ _ z2)
     refine Q03 w2 19 (by kernel_rfl) (by kernel_rfl) (Below.refl _ _) ?_;simp only [List.take_succ_cons,List.take_zero,List.take_nil]
     (refine Q02 (by rfl) (fun K hK=>?_);go_simp;first|(refine hK _ ?_;clear hK K)|(apply Exists.intro;refine ⟨fun _=>?_,hK _ ?_⟩;fail;clear hK K))
     (refine Q02 (by rfl) (fun K hK=>?_);rw [if_pos (by rfl)];refine ⟨_,fun u=>Q0d _ (.tmp 12) (by rfl) _ _ (by rfl) Q0g hlZ (rangeAt.ext R2.out.2 u),hK _ ?_⟩;clear hK K;simp only [Act.put,List.setIfInBounds_toArray,List.set_cons_zero,List.set_cons_succ])
     (refine Q02 (by rfl) (fun K hK=>?_);go_simp;first|(refine hK _ ?_;clear hK K)|(apply Exists.intro;refine ⟨fun _=>?_,hK _ ?_⟩;fail;clear hK K))
     (refine Q02 (by rfl) (fun K hK=>?_);rw [if_pos (by rfl)];refine ⟨_,fun u=>Q1h _ _ _ _ (by rfl) (by rfl) (by rfl) (fun o1 o2 w1=>Gq.out o1 o2 w1) (fun w1=>Qq.out w1),hK _ ?_⟩;clear hK K;simp only [Act.put,List.setIfInBounds_toArray,List.set_cons_zero,List.set_cons_succ])
     iterate 15 (refine Q02 (by rfl) (fun K hK=>?_);go_simp;first|(refine hK _ ?_;clear hK K)|(apply Exists.intro;refine ⟨fun _=>?_,hK _ ?_⟩;fail;clear hK K))
     refine Q0e ?_
     intro y5 b5
     change wpList _ _ _ [_] _ _
     try simp only [Act.put,List.setIfInBounds_toArray,List.set_cons_zero,List.set_cons_succ]
     go_wp2_with fail
     go_roundw
     case rel=>exact ⟨i+1,by omega,by go_num,Below.then (Below.then hbel b2) b5,Lib.hid (fun j hj=>by
      have:j=i:=by have:=hi0'.out;omega
      rw [this];exact Hgood.out)⟩
     case measure=>simp [intOf];omega
    ·have hi1:0<i:=by omega
     have hd1:decide (0<i)=true:=decide_eq_true hi1
     obtain ⟨J,hJ⟩:∃ J,J=i - 1:=⟨_,rfl⟩
     have hJl:J<l.length:=by omega
     have hsub:IntKind.i64.wrap ((i:Int) - 1)=(J:Int):=by rw [IntWalk.i64_in _ (by omega)];omega
     have hJn:(J:Int)<(n:Int):=by omega
     have hJn2:J<n:=by omega
     obtain ⟨b2',off2',hbe,hr2⟩:=RowOf.range Q42 (h.below hbel) J hJl
     simp only [Option.some.injEq,Addr.mk.injEq,and_true] at hbe
     obtain ⟨rfl,rfl⟩:=hbe
     have hkq:=Hk.out _ (List.getElem_mem hJl)
     have hgd:l.getD (i - 1) (0,0)=l[J]:=by rw [←hJ,List.getD_eq_getElem?_getD,List.getElem?_eq_getElem hJl];rfl
     obtain ⟨q,hq⟩:∃ q,q=l[J]:=⟨_,rfl⟩
     rw [←hq] at hr2 hkq hgd
     have hrq:wr.rangeAt b (off+J*8) (wcs q.1):=fun j v hv=>hr2 j v (by
      unfold spc
      rw [List.getElem?_append_left (by have:=(List.getElem?_eq_some_iff.1 hv).1;exact this)];exact hv)
     have hok2:okS l i=decide (q.1<p.1):=by
      unfold okS
      rw [hli]
      simp only [hgd]
      have:(p.2 != 0)=true:=by simpa using hv
      have h2:(i==0)=false:=by simpa using hi0
      rw [this,h2];simp
     have cc:=fun u=>Qmd q.1 p.1 hkq.1 hkp.1 u
     have hge:=cmp_ge q.1 p.1
     obtain ⟨r,hrr⟩:∃ r,r=cmpI q.1 p.1:=⟨_,rfl⟩
     rw [←hrr] at hge
     have cc2:∀ u:World,Calls Tryz.prog 74 #[.agg (wcs q.1).toArray,.agg Y.toArray] u (fun e w'=>e=.returned (.int .i64 r)∧Below u.heap.size u w'):=fun u=>by have:=cc u;rw [←hrr] at this;rw [hY];exact this
     obtain ⟨V,hV⟩:∃ V,V=wcs q.1:=⟨_,rfl⟩
     have hlV:V.length=4:=by rw [hV];rfl
     rw [←hV] at hrq cc2
     have Cc:=Lib.hid cc2
     have RQ:=Lib.hid hrq
     by_cases hcm:q.1<p.1
     ·have hr0:¬ (0:Int)≤r:=by rw [hge];simpa using hcm
      have hr1:decide ((0:Int)≤r)=false:=decide_eq_false hr0
      have hgood:okS l i=true:=by rw [hok2];exact decide_eq_true hcm
      have Hgood:=Lib.hid hgood
      clear qq hv hgood hli hp hP8 hY hZ hkp hil hok2 hge hrr hV hcm cc cc2 hq hkq hgd hJl hr2 hJ hrq
      go_upto_region 4 with (first
       |((with_reducible show wpList _ _ _ (⟨some 11,_,_,_,_,_⟩::_) _ _);refine Q07 (o:=⟨some 11,_,_,_,_,_⟩) 102 (.tmp 10) (by rfl) b (off+i*8) (by rfl) Q2p hl8 hr (by rfl) ?_)
       |((with_reducible show wpList _ _ _ (⟨none,.store _ _ (.tmp 11),_,_,_,_⟩::_) _ _);refine Q00 (o:=⟨none,_,_,_,_,_⟩) (by rfl) 102 (.tmp 4) (.tmp 11) (by rfl) wr.heap.size P8 (by rfl) (by rfl) Q2p n4 hl8 (by rfl) ho8 hb4 (Nat.le_refl _) ?_;intro w2 z2 b2 _))
      have R2:=Lib.hid (Hr4.out _ _ z2)
      refine Q03 w2 19 (by kernel_rfl) (by kernel_rfl) (Below.refl _ _) ?_;simp only [List.take_succ_cons,List.take_zero,List.take_nil]
      (refine Q02 (by rfl) (fun K hK=>?_);go_simp;first|(refine hK _ ?_;clear hK K)|(apply Exists.intro;refine ⟨fun _=>?_,hK _ ?_⟩;fail;clear hK K))
      (refine Q02 (by rfl) (fun K hK=>?_);rw [if_pos (by rfl)];refine ⟨_,fun u=>Q0d _ (.tmp 12) (by rfl) _ _ (by rfl) Q0g hlZ (rangeAt.ext R2.out.2 u),hK _ ?_⟩;clear hK K;simp only [Act.put,List.setIfInBounds_toArray,List.set_cons_zero,List.set_cons_succ])
      (refine Q02 (by rfl) (fun K hK=>?_);go_simp;first|(refine hK _ ?_;clear hK K)|(apply Exists.intro;refine ⟨fun _=>?_,hK _ ?_⟩;fail;clear hK K))
      (refine Q02 (by rfl) (fun K hK=>?_);rw [if_pos (by rfl)];refine ⟨_,fun u=>Q1h _ _ _ _ (by rfl) (by rfl) (by rfl) (fun o1 o2 w1=>Gq.out o1 o2 w1) (fun w1=>Qq.out w1),hK _ ?_⟩;clear hK K;simp only [Act.put,List.setIfInBounds_toArray,List.set_cons_zero,List.set_cons_succ])
      iterate 9 (refine Q02 (by rfl) (fun K hK=>?_);go_simp;first|(refine hK _ ?_;clear hK K)|(apply Exists.intro;refine ⟨fun _=>?_,hK _ ?_⟩;fail;clear hK K))
      (refine Q02 (by rfl) (fun K hK=>?_);rw [if_pos (by rfl)];refine ⟨_,fun u=>Q0d _ (.tmp 24) (by rfl) _ _ (by rfl) Q0g hlV (rangeAt.ext (World.rangeAt.below RQ.out b2) u),hK _ ?_⟩;clear hK K;simp only [Act.put,List.setIfInBounds_toArray,List.set_cons_zero,List.set_cons_succ])
      (refine Q02 (by rfl) (fun K hK=>?_);go_simp;first|(refine hK _ ?_;clear hK K)|(apply Exists.intro;refine ⟨fun _=>?_,hK _ ?_⟩;fail;clear hK K))
      (refine Q02 (by rfl) (fun K hK=>?_);rw [if_pos (by rfl)];refine ⟨_,fun u=>Q0d _ (.tmp 26) (by rfl) _ _ (by rfl) Q0g hlY (rangeAt.ext R2.out.1 u),hK _ ?_⟩;clear hK K;simp only [Act.put,List.setIfInBounds_toArray,List.set_cons_zero,List.set_cons_succ])
      (refine Q02 (by rfl) (fun K hK=>?_);go_simp;first|(refine hK _ ?_;clear hK K)|(apply Exists.intro;refine ⟨fun _=>?_,hK _ ?_⟩;exact Cc.out _;clear hK K))
      iterate 2 (refine Q02 (by rfl) (fun K hK=>?_);go_simp;first|(refine hK _ ?_;clear hK K)|(apply Exists.intro;refine ⟨fun _=>?_,hK _ ?_⟩;fail;clear hK K))
      refine Q0e ?_
      intro y5 b5
      change wpList _ _ _ [_] _ _
      try simp only [Act.put,List.setIfInBounds_toArray,List.set_cons_zero,List.set_cons_succ]
      go_wp2_with fail
      go_roundw
      case rel=>exact ⟨i+1,by omega,by go_num,Below.then (Below.then hbel b2) b5,Lib.hid (fun j hj=>by
       by_cases hji:j=i
       ·rw [hji];exact Hgood.out
       ·exact hok.out j (by omega))⟩
      case measure=>simp [intOf];omega
     ·have hr0:(0:Int)≤r:=by rw [hge];exact hcm
      have hr1:decide ((0:Int)≤r)=true:=decide_eq_true hr0
      have hbad:okS l i=false:=by rw [hok2];exact decide_eq_false hcm
      have Hres:=Lib.hid (show slotsB l=false from Q5u hil hbad)
      clear qq hv hbad hli hp hP8 hY hZ hkp hil hok2 hge hrr hV hcm cc cc2 hq hkq hgd hJl hr2 hJ hrq
      go_upto_region 4 with (first
       |((with_reducible show wpList _ _ _ (⟨some 11,_,_,_,_,_⟩::_) _ _);refine Q07 (o:=⟨some 11,_,_,_,_,_⟩) 102 (.tmp 10) (by rfl) b (off+i*8) (by rfl) Q2p hl8 hr (by rfl) ?_)
       |((with_reducible show wpList _ _ _ (⟨none,.store _ _ (.tmp 11),_,_,_,_⟩::_) _ _);refine Q00 (o:=⟨none,_,_,_,_,_⟩) (by rfl) 102 (.tmp 4) (.tmp 11) (by rfl) wr.heap.size P8 (by rfl) (by rfl) Q2p n4 hl8 (by rfl) ho8 hb4 (Nat.le_refl _) ?_;intro w2 z2 b2 _))
      have R2:=Lib.hid (Hr4.out _ _ z2)
      refine Q03 w2 19 (by kernel_rfl) (by kernel_rfl) (Below.refl _ _) ?_;simp only [List.take_succ_cons,List.take_zero,List.take_nil]
      (refine Q02 (by rfl) (fun K hK=>?_);go_simp;first|(refine hK _ ?_;clear hK K)|(apply Exists.intro;refine ⟨fun _=>?_,hK _ ?_⟩;fail;clear hK K))
      (refine Q02 (by rfl) (fun K hK=>?_);rw [if_pos (by rfl)];refine ⟨_,fun u=>Q0d _ (.tmp 12) (by rfl) _ _ (by rfl) Q0g hlZ (rangeAt.ext R2.out.2 u),hK _ ?_⟩;clear hK K;simp only [Act.put,List.setIfInBounds_toArray,List.set_cons_zero,List.set_cons_succ])
      (refine Q02 (by rfl) (fun K hK=>?_);go_simp;first|(refine hK _ ?_;clear hK K)|(apply Exists.intro;refine ⟨fun _=>?_,hK _ ?_⟩;fail;clear hK K))
      (refine Q02 (by rfl) (fun K hK=>?_);rw [if_pos (by rfl)];refine ⟨_,fun u=>Q1h _ _ _ _ (by rfl) (by rfl) (by rfl) (fun o1 o2 w1=>Gq.out o1 o2 w1) (fun w1=>Qq.out w1),hK _ ?_⟩;clear hK K;simp only [Act.put,List.setIfInBounds_toArray,List.set_cons_zero,List.set_cons_succ])
      iterate 9 (refine Q02 (by rfl) (fun K hK=>?_);go_simp;first|(refine hK _ ?_;clear hK K)|(apply Exists.intro;refine ⟨fun _=>?_,hK _ ?_⟩;fail;clear hK K))
      (refine Q02 (by rfl) (fun K hK=>?_);rw [if_pos (by rfl)];refine ⟨_,fun u=>Q0d _ (.tmp 24) (by rfl) _ _ (by rfl) Q0g hlV (rangeAt.ext (World.rangeAt.below RQ.out b2) u),hK _ ?_⟩;clear hK K;simp only [Act.put,List.setIfInBounds_toArray,List.set_cons_zero,List.set_cons_succ])
      (refine Q02 (by rfl) (fun K hK=>?_);go_simp;first|(refine hK _ ?_;clear hK K)|(apply Exists.intro;refine ⟨fun _=>?_,hK _ ?_⟩;fail;clear hK K))
      (refine Q02 (by rfl) (fun K hK=>?_);rw [if_pos (by rfl)];refine ⟨_,fun u=>Q0d _ (.tmp 26) (by rfl) _ _ (by rfl) Q0g hlY (rangeAt.ext R2.out.1 u),hK _ ?_⟩;clear hK K;simp only [Act.put,List.setIfInBounds_toArray,List.set_cons_zero,List.set_cons_succ])
      (refine Q02 (by rfl) (fun K hK=>?_);go_simp;first|(refine hK _ ?_;clear hK K)|(apply Exists.intro;refine ⟨fun _=>?_,hK _ ?_⟩;exact Cc.out _;clear hK K))
      iterate 2 (refine Q02 (by rfl) (fun K hK=>?_);go_simp;first|(refine hK _ ?_;clear hK K)|(apply Exists.intro;refine ⟨fun _=>?_,hK _ ?_⟩;fail;clear hK K))
      refine Q0e ?_
      intro y5 b5
      change wpList _ _ _ [_] _ _
      try simp only [Act.put,List.setIfInBounds_toArray,List.set_cons_zero,List.set_cons_succ]
      go_wp2_with fail
      go_ret
      rw [Hres.out]
      exact ⟨rfl,Below.then (Below.then hbel b2) b5⟩
  ·obtain rfl:i=n:=by omega
   have hz:¬ (i:Int)<(i:Int):=by omega
   have Hres:=Lib.hid (show slotsB l=true from Qj5 (fun j hj=>hok.out j (by rw [←Hn.out];exact hj)))
   go_wp2_with fail
   go_ret
   rw [Hres.out]
   exact ⟨rfl,hbel⟩
end Go.Proofs.YtcgpjceopnfahaaGreat
