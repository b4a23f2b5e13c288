/- world.Right. | The zero account. -/
import Derived.Test.YtbdmkfjgnjfjbaaGreatLazyServesK32
set_option linter.unusedSimpArgs false
set_option linter.unusedVariables false
set_option maxHeartbeats 4000000
set_option maxRecDepth 100000
namespace Go.Proofs.YtbdmkfjgnjfjbaaGreat
open Go.RowKit
theorem Q4f {h:Hol}{w:World}(hi:h.a.In w):∀ u∈hols h,u.oneCell'=true:=by
 intro u hu
 obtain ⟨ca,cc,sa,sc,h1,h2⟩:=Q0w hi
 unfold hols accs at hu
 rw [h1,h2] at hu
 rcases List.mem_append.1 hu with hu|hu
 ·obtain ⟨x,_,rfl⟩:=List.mem_map.1 hu
  rfl
 ·rcases List.mem_append.1 hu with hu|hu
  ·rw [List.mem_singleton] at hu;subst hu;rfl
  ·rcases List.mem_append.1 hu with hu|hu
   ·exact Q38 _ u hu
   ·simp only [List.mem_cons,List.not_mem_nil,or_false] at hu
    rcases hu with rfl|rfl<;>rfl
theorem Qlc (A B:Nat):(0≤ordI A B)↔¬ A<B:=by
 unfold ordI
 split
 ·omega
 ·split<;>omega
def z15:List Value:=[.int .u8 0,.int .u8 0,.int .u8 0,.int .u8 0,.int .u8 0,.int .u8 0,.int .u8 0,.int .u8 0,.int .u64 0,.int .u64 0,.int .u64 0,.int .u64 0,.int .u64 0,.slice none 0 0,.slice none 0 0]
theorem Q20 (h:Hol)(j:Nat):(hols h)[8+j]?=(accs h.a)[j]?:=by
 unfold hols
 rw [List.getElem?_append_right (by rw [Q0n,h.l];omega),Q0n,h.l]
 congr 1
 omega
theorem Q3e (h:Hol)(j:Nat)(hj:j<8):(hols h)[j]?=(by8 h.f)[j]?:=by
 unfold hols
 rw [List.getElem?_append_left (by rw [Q0n,h.l];omega)]
theorem Q4n (a:Option Addr)(n c:Nat)(l:List Hol)(hn:l.length=n)(hk:∀ h∈l,h.a.Ok)(w:World)(h:RowOf hols 15 w (.slice a n c) l)(hi:∀ h∈l,h.a.In w) :
  Calls Tryz.prog 67 #[.slice a n c] w fun e w'=>e=.returned (.bool (rightB l))∧Below w.heap.size w w':=by
 have Hn:=Qhd hn
 have Hk:=Qhd hk
 have Hi:=Qhd hi
 have hsm:=h.small
 unfold maxLen at hsm
 rw [hn] at hsm
 clear hn hk hi
 go_enter Tryz.func67,Tryz.ntmps67
 go_wp2_with fail
 go_loopw [7] (fun ix wr=>∃ i:Nat,i≤n∧ix=.int .i64 (i:Int)∧Below w.heap.size w wr∧Hid (∀ j,j<i→okH l j=true)) (fun ix _=>n - (intOf ix).toNat)
 case atStart=>exact ⟨0,by omega,rfl,Below.refl _ _,Qhd (fun j hj=>by omega)⟩
 case round =>
  obtain ⟨i,hin,rfl,hbel,hok⟩:=hrel
  by_cases hlt:i<n
  ·have hz:(i:Int)<(n:Int):=by omega
   have hil:i<l.length:=by rw [Hn.out];exact hlt
   obtain ⟨b,off,rfl,hr⟩:=RowOf.range Q10 (h.below hbel) i hil
   have hkp:=Hk.out _ (List.getElem_mem hil)
   have hip:=(Hi.out _ (List.getElem_mem hil)).below hbel
   obtain ⟨p,hp⟩:∃ p,p=l[i]:=⟨_,rfl⟩
   rw [←hp] at hr hkp hip
   have hli:l[i]?=some p:=by rw [hp];exact List.getElem?_eq_getElem hil
   obtain ⟨ca,cc,sa,sc,hcv,hsv⟩:=Q0w hip
   obtain ⟨P8,hP8⟩:∃ P,P=hols p:=⟨_,rfl⟩
   have hl8:P8.length=15:=by rw [hP8];exact Q10 p
   have ho8:∀ u∈P8,u.oneCell'=true:=by rw [hP8];exact Q4f hip
   obtain ⟨cn,hcn⟩:∃ n,n=p.a.c.length:=⟨_,rfl⟩
   obtain ⟨sn,hsn⟩:∃ n,n=p.a.s.length:=⟨_,rfl⟩
   obtain ⟨Y,hY⟩:∃ Y,Y=accs p.a:=⟨_,rfl⟩
   obtain ⟨Z,hZ⟩:∃ Z,Z=by8 p.f:=⟨_,rfl⟩
   have hlY:Y.length=7:=by rw [hY];rfl
   have hlZ:Z.length=8:=by rw [hZ,Q0n,p.l]
   have hr4:∀ u x,Blk 123 u x P8→u.rangeAt x 0 Z∧u.rangeAt x 8 Y∧u.cell? ⟨x,13,none⟩=some (.slice ca cn cc)∧u.cell? ⟨x,14,none⟩=some (.slice sa sn sc):=fun u x h=>by
    rw [hP8] at h
    refine ⟨fun j v hv=>?_,fun j v hv=>?_,?_,?_⟩
    ·rw [Nat.zero_add,h.cell,Q3e p j (by have:=(List.getElem?_eq_some_iff.1 hv).1;omega),←hZ];exact hv
    ·rw [h.cell,Q20,←hY];exact hv
    ·have:=h.cell 13;rw [show 13=8+5 from rfl,Q20,show (accs p.a)[5]?=some p.a.cv from rfl,hcv,←hcn] at this;exact this
    ·have:=h.cell 14;rw [show 14=8+6 from rfl,Q20,show (accs p.a)[6]?=some p.a.sv from rfl,hsv,←hsn] at this;exact this
   rw [←hP8] at hr
   have nc:∀ u:World,Below wr.heap.size wr u→Calls Tryz.prog 98 #[.agg Y.toArray] u fun e w'=>e=.returned (.bool (noneB p.a))∧Below u.heap.size u w':=fun u hu=>by rw [hY];exact Qf5 p.a hkp u (hip.below hu)
   have sc2:∀ u:World,Below wr.heap.size wr u→Calls Tryz.prog 34 #[.slice sa sn sc] u fun e w'=>e=.returned (.bool (slotsB p.a.s))∧Below u.heap.size u w':=fun u hu=>Q3u sa sn sc p.a.s hsn.symm hkp.s u (by have:=(hip.below hu).2;rw [hsv,←hsn] at this;exact this)
   have hokp:okH l i=(!noneB p.a&&(decide (cn≤1024)&&(slotsB p.a.s&&(i==0 || decide ((l.getD (i - 1) p).adr<p.adr))))):=by unfold okH;rw [hli,hcn]
   obtain ⟨xN,hxN⟩:∃ x,x=noneB p.a:=⟨_,rfl⟩
   obtain ⟨xS,hxS⟩:∃ x,x=slotsB p.a.s:=⟨_,rfl⟩
   rw [←hxN,←hxS] at hokp
   rw [←hxN] at nc
   rw [←hxS] at sc2
   have Hr4:=Qhd hr4
   have Nc:=Qhd nc
   have Sc:=Qhd sc2
   have n4:=Blk.newA wr 123 z15.toArray
   have hb4:Below wr.heap.size wr (wr.alloc (.cells z15.toArray 123)):=Qba _ _
   clear hr4 nc sc2 hcv hsv hcn hsn hli hxN hxS hY
   cases xN with
   | true =>
    have hbad:okH l i=false:=by rw [hokp];rfl
    have Hres:=Qhd (show rightB l=false from Q1g hil hbad)
    clear hbad hp hP8 hZ hkp hil hokp hip
    go_upto_region 4 with (first
     |((with_reducible refine Qgl 11 ?_);refine Qlw 123 10 b (off+i*15) aggHol hl8 hr ?_)
     |((with_reducible refine Qgs 11 ?_);refine Qsa 123 4 11 wr.heap.size P8 aggHol n4 hl8 (by rfl) ho8 hb4 (Nat.le_refl _) ?_;intro w2 z2 b2 _))
    have R2:=Qhd (Hr4.out _ _ z2)
    have k13:=fun u:Ext w2=>u.cell R2.out.2.2.1
    have k14:=fun u:Ext w2=>u.cell R2.out.2.2.2
    refine Q02 w2 32 (by kernel_rfl) (by kernel_rfl) (Below.refl _ _) ?_;simp only [List.take_succ_cons,List.take_zero,List.take_nil]
    (refine Q01 (by rfl) (fun K hK=>?_);go_simp;refine hK _ ?_;clear hK K)
    (refine Q01 (by rfl) (fun K hK=>?_);rw [if_pos (by rfl)];refine ⟨_,fun u=>Q08 _ (.tmp 12) (by rfl) _ _ (by rfl) aggAcc hlY (rangeAt.ext R2.out.2.1 u),hK _ ?_⟩;clear hK K;simp only [Act.put,Qzs])
    (refine Q01 (by rfl) (fun K hK=>?_);go_simp;first|(refine hK _ ?_;clear hK K)|(apply Exists.intro;refine ⟨fun _=>?_,hK _ ?_⟩;exact Nc.out _ (Below.then b2 (Ext.bel _));clear hK K))
    iterate 29 (refine Q01 (by rfl) (fun K hK=>?_);go_simp;refine hK _ ?_;clear hK K)
    refine Q09 ?_
    intro y5 b5
    change wpList _ _ _ [_] _ _
    try simp only [Act.put,Qzs]
    go_wp2_with fail
    go_ret
    rw [Hres.out]
    exact ⟨rfl,Below.then (Below.then hbel b2) b5⟩
   | false =>
    by_cases hc1:1024<cn
    ·have hc2:(1024:Int)<(cn:Int):=by omega
     have hbad:okH l i=false:=by
      rw [hokp]
      have:decide (cn≤1024)=false:=decide_eq_false (by omega)
      rw [this];rfl
     have Hres:=Qhd (show rightB l=false from Q1g hil hbad)
     clear hbad hp hP8 hZ hkp hil hokp hip
     go_upto_region 4 with (first
      |((with_reducible refine Qgl 11 ?_);refine Qlw 123 10 b (off+i*15) aggHol hl8 hr ?_)
      |((with_reducible refine Qgs 11 ?_);refine Qsa 123 4 11 wr.heap.size P8 aggHol n4 hl8 (by rfl) ho8 hb4 (Nat.le_refl _) ?_;intro w2 z2 b2 _))
     have R2:=Qhd (Hr4.out _ _ z2)
     have k13:=fun u:Ext w2=>u.cell R2.out.2.2.1
     have k14:=fun u:Ext w2=>u.cell R2.out.2.2.2
     refine Q02 w2 32 (by kernel_rfl) (by kernel_rfl) (Below.refl _ _) ?_;simp only [List.take_succ_cons,List.take_zero,List.take_nil]
     (refine Q01 (by rfl) (fun K hK=>?_);go_simp;refine hK _ ?_;clear hK K)
     (refine Q01 (by rfl) (fun K hK=>?_);rw [if_pos (by rfl)];refine ⟨_,fun u=>Q08 _ (.tmp 12) (by rfl) _ _ (by rfl) aggAcc hlY (rangeAt.ext R2.out.2.1 u),hK _ ?_⟩;clear hK K;simp only [Act.put,Qzs])
     (refine Q01 (by rfl) (fun K hK=>?_);go_simp;first|(refine hK _ ?_;clear hK K)|(apply Exists.intro;refine ⟨fun _=>?_,hK _ ?_⟩;exact Nc.out _ (Below.then b2 (Ext.bel _));clear hK K))
     iterate 29 (refine Q01 (by rfl) (fun K hK=>?_);go_simp;refine hK _ ?_;clear hK K)
     refine Q09 ?_
     intro y5 b5
     change wpList _ _ _ [_] _ _
     try simp only [Act.put,Qzs]
     go_wp2_with fail
     go_ret
     rw [Hres.out]
     exact ⟨rfl,Below.then (Below.then hbel b2) b5⟩
    ·have hc2:¬ (1024:Int)<(cn:Int):=by omega
     have hc3:decide (cn≤1024)=true:=decide_eq_true (by omega)
     rw [hc3] at hokp
     cases xS with
     | false =>
      have hbad:okH l i=false:=by rw [hokp];rfl
      have Hres:=Qhd (show rightB l=false from Q1g hil hbad)
      clear hbad hp hP8 hZ hkp hil hokp hip hc3
      go_upto_region 4 with (first
       |((with_reducible refine Qgl 11 ?_);refine Qlw 123 10 b (off+i*15) aggHol hl8 hr ?_)
       |((with_reducible refine Qgs 11 ?_);refine Qsa 123 4 11 wr.heap.size P8 aggHol n4 hl8 (by rfl) ho8 hb4 (Nat.le_refl _) ?_;intro w2 z2 b2 _))
      have R2:=Qhd (Hr4.out _ _ z2)
      have k13:=fun u:Ext w2=>u.cell R2.out.2.2.1
      have k14:=fun u:Ext w2=>u.cell R2.out.2.2.2
      refine Q02 w2 32 (by kernel_rfl) (by kernel_rfl) (Below.refl _ _) ?_;simp only [List.take_succ_cons,List.take_zero,List.take_nil]
      (refine Q01 (by rfl) (fun K hK=>?_);go_simp;refine hK _ ?_;clear hK K)
      (refine Q01 (by rfl) (fun K hK=>?_);rw [if_pos (by rfl)];refine ⟨_,fun u=>Q08 _ (.tmp 12) (by rfl) _ _ (by rfl) aggAcc hlY (rangeAt.ext R2.out.2.1 u),hK _ ?_⟩;clear hK K;simp only [Act.put,Qzs])
      (refine Q01 (by rfl) (fun K hK=>?_);go_simp;first|(refine hK _ ?_;clear hK K)|(apply Exists.intro;refine ⟨fun _=>?_,hK _ ?_⟩;exact Nc.out _ (Below.then b2 (Ext.bel _));clear hK K))
      iterate 11 (refine Q01 (by rfl) (fun K hK=>?_);go_simp;refine hK _ ?_;clear hK K)
      (refine Q01 (by rfl) (fun K hK=>?_);go_simp;first|(refine hK _ ?_;clear hK K)|(apply Exists.intro;refine ⟨fun _=>?_,hK _ ?_⟩;exact Sc.out _ (Below.then b2 (Ext.bel _));clear hK K))
      iterate 17 (refine Q01 (by rfl) (fun K hK=>?_);go_simp;refine hK _ ?_;clear hK K)
      refine Q09 ?_
      intro y5 b5
      change wpList _ _ _ [_] _ _
      try simp only [Act.put,Qzs]
      go_wp2_with fail
      go_ret
      rw [Hres.out]
      exact ⟨rfl,Below.then (Below.then hbel b2) b5⟩
     | true =>
      by_cases hi0:i=0
      ·have hi1:¬ 0<i:=by omega
       have hd1:decide (0<i)=false:=decide_eq_false hi1
       have hgood:okH l i=true:=by rw [hokp,hi0];rfl
       have Hgood:=Qhd hgood
       have hi0':=Qhd hi0
       clear hgood hp hP8 hZ hkp hil hokp hip hc3 hi0
       go_upto_region 4 with (first
        |((with_reducible refine Qgl 11 ?_);refine Qlw 123 10 b (off+i*15) aggHol hl8 hr ?_)
        |((with_reducible refine Qgs 11 ?_);refine Qsa 123 4 11 wr.heap.size P8 aggHol n4 hl8 (by rfl) ho8 hb4 (Nat.le_refl _) ?_;intro w2 z2 b2 _))
       have R2:=Qhd (Hr4.out _ _ z2)
       have k13:=fun u:Ext w2=>u.cell R2.out.2.2.1
       have k14:=fun u:Ext w2=>u.cell R2.out.2.2.2
       refine Q02 w2 32 (by kernel_rfl) (by kernel_rfl) (Below.refl _ _) ?_;simp only [List.take_succ_cons,List.take_zero,List.take_nil]
       (refine Q01 (by rfl) (fun K hK=>?_);go_simp;refine hK _ ?_;clear hK K)
       (refine Q01 (by rfl) (fun K hK=>?_);rw [if_pos (by rfl)];refine ⟨_,fun u=>Q08 _ (.tmp 12) (by rfl) _ _ (by rfl) aggAcc hlY (rangeAt.ext R2.out.2.1 u),hK _ ?_⟩;clear hK K;simp only [Act.put,Qzs])
       (refine Q01 (by rfl) (fun K hK=>?_);go_simp;first|(refine hK _ ?_;clear hK K)|(apply Exists.intro;refine ⟨fun _=>?_,hK _ ?_⟩;exact Nc.out _ (Below.then b2 (Ext.bel _));clear hK K))
       iterate 11 (refine Q01 (by rfl) (fun K hK=>?_);go_simp;refine hK _ ?_;clear hK K)
       (refine Q01 (by rfl) (fun K hK=>?_);go_simp;first|(refine hK _ ?_;clear hK K)|(apply Exists.intro;refine ⟨fun _=>?_,hK _ ?_⟩;exact Sc.out _ (Below.then b2 (Ext.bel _));clear hK K))
       iterate 17 (refine Q01 (by rfl) (fun K hK=>?_);go_simp;refine hK _ ?_;clear hK K)
       refine Q09 ?_
       intro y5 b5
       change wpList _ _ _ [_] _ _
       try simp only [Act.put,Qzs]
       go_wp2_with fail
       go_roundw
       case rel=>exact ⟨i+1,by omega,by go_num,Below.then (Below.then hbel b2) b5,Qhd (fun j hj=>by
        have:j=i:=by have:=hi0'.out;omega
        rw [this];exact Hgood.out)⟩
       case measure=>simp [intOf];omega
      ·have hi1:0<i:=by omega
       have hd1:decide (0<i)=true:=decide_eq_true hi1
       obtain ⟨J,hJ⟩:∃ J,J=i - 1:=⟨_,rfl⟩
       have hJl:J<l.length:=by omega
       have hsub:IntKind.i64.wrap ((i:Int) - 1)=(J:Int):=by rw [IntWalk.i64_in _ (by omega)];omega
       have hJn:(J:Int)<(n:Int):=by omega
       have hJn2:J<n:=by omega
       obtain ⟨b2',off2',hbe,hr2⟩:=RowOf.range Q10 (h.below hbel) J hJl
       simp only [Option.some.injEq,Addr.mk.injEq,and_true] at hbe
       obtain ⟨rfl,rfl⟩:=hbe
       have hgd:l.getD (i - 1) p=l[J]:=by rw [←hJ,List.getD_eq_getElem?_getD,List.getElem?_eq_getElem hJl];rfl
       obtain ⟨q,hq⟩:∃ q,q=l[J]:=⟨_,rfl⟩
       rw [←hq] at hr2 hgd
       have hrq:wr.rangeAt b (off+J*15) (by8 q.f):=fun j v hv=>hr2 j v (by rw [Q3e q j (by have:=(List.getElem?_eq_some_iff.1 hv).1;rw [Q0n,q.l] at this;exact this)];exact hv)
       have hok2:okH l i=decide (q.adr<p.adr):=by
        rw [hokp,hgd]
        have h2:(i==0)=false:=by simpa using hi0
        rw [h2];simp
       have cc2:=fun u=>Q7u q.f p.f q.l p.l u
       have hge:=Qlc (numL q.f) (numL p.f)
       obtain ⟨r,hrr⟩:∃ r,r=ordI (numL q.f) (numL p.f):=⟨_,rfl⟩
       rw [←hrr] at hge
       rw [←hrr,←hZ] at cc2
       obtain ⟨V,hV⟩:∃ V,V=by8 q.f:=⟨_,rfl⟩
       have hlV:V.length=8:=by rw [hV,Q0n,q.l]
       rw [←hV] at hrq cc2
       have Cc:=Qhd cc2
       have RQ:=Qhd hrq
       by_cases hcm:q.adr<p.adr
       ·have hr0:¬ (0:Int)≤r:=by rw [hge];exact fun h=>h hcm
        have hr1:decide ((0:Int)≤r)=false:=decide_eq_false hr0
        have hgood:okH l i=true:=by rw [hok2];exact decide_eq_true hcm
        have Hgood:=Qhd hgood
        clear hgood hp hP8 hZ hkp hil hok2 hokp hip hc3 hge hrr hV hcm cc2 hq hgd hJl hr2 hJ hrq
        go_upto_region 4 with (first
         |((with_reducible refine Qgl 11 ?_);refine Qlw 123 10 b (off+i*15) aggHol hl8 hr ?_)
         |((with_reducible refine Qgs 11 ?_);refine Qsa 123 4 11 wr.heap.size P8 aggHol n4 hl8 (by rfl) ho8 hb4 (Nat.le_refl _) ?_;intro w2 z2 b2 _))
        have R2:=Qhd (Hr4.out _ _ z2)
        have k13:=fun u:Ext w2=>u.cell R2.out.2.2.1
        have k14:=fun u:Ext w2=>u.cell R2.out.2.2.2
        refine Q02 w2 32 (by kernel_rfl) (by kernel_rfl) (Below.refl _ _) ?_;simp only [List.take_succ_cons,List.take_zero,List.take_nil]
        (refine Q01 (by rfl) (fun K hK=>?_);go_simp;refine hK _ ?_;clear hK K)
        (refine Q01 (by rfl) (fun K hK=>?_);rw [if_pos (by rfl)];refine ⟨_,fun u=>Q08 _ (.tmp 12) (by rfl) _ _ (by rfl) aggAcc hlY (rangeAt.ext R2.out.2.1 u),hK _ ?_⟩;clear hK K;simp only [Act.put,Qzs])
        (refine Q01 (by rfl) (fun K hK=>?_);go_simp;first|(refine hK _ ?_;clear hK K)|(apply Exists.intro;refine ⟨fun _=>?_,hK _ ?_⟩;exact Nc.out _ (Below.then b2 (Ext.bel _));clear hK K))
        iterate 11 (refine Q01 (by rfl) (fun K hK=>?_);go_simp;refine hK _ ?_;clear hK K)
        (refine Q01 (by rfl) (fun K hK=>?_);go_simp;first|(refine hK _ ?_;clear hK K)|(apply Exists.intro;refine ⟨fun _=>?_,hK _ ?_⟩;exact Sc.out _ (Below.then b2 (Ext.bel _));clear hK K))
        iterate 10 (refine Q01 (by rfl) (fun K hK=>?_);go_simp;refine hK _ ?_;clear hK K)
        iterate 1 (refine Q01 (by rfl) (fun K hK=>?_);go_simp;refine hK _ ?_;clear hK K)
        (refine Q01 (by rfl) (fun K hK=>?_);rw [if_pos (by rfl)];refine ⟨_,fun u=>Q08 _ (.tmp 37) (by rfl) _ _ (by rfl) Q0v hlV (rangeAt.ext (World.rangeAt.below RQ.out b2) u),hK _ ?_⟩;clear hK K;simp only [Act.put,Qzs])
        (refine Q01 (by rfl) (fun K hK=>?_);go_simp;refine hK _ ?_;clear hK K)
        (refine Q01 (by rfl) (fun K hK=>?_);rw [if_pos (by rfl)];refine ⟨_,fun u=>Q08 _ (.tmp 39) (by rfl) _ _ (by rfl) Q0v hlZ (rangeAt.ext R2.out.1 u),hK _ ?_⟩;clear hK K;simp only [Act.put,Qzs])
        (refine Q01 (by rfl) (fun K hK=>?_);go_simp;first|(refine hK _ ?_;clear hK K)|(apply Exists.intro;refine ⟨fun _=>?_,hK _ ?_⟩;exact Cc.out _;clear hK K))
        iterate 2 (refine Q01 (by rfl) (fun K hK=>?_);go_simp;refine hK _ ?_;clear hK K)
        refine Q09 ?_
        intro y5 b5
        change wpList _ _ _ [_] _ _
        try simp only [Act.put,Qzs]
        go_wp2_with fail
        go_roundw
        case rel=>exact ⟨i+1,by omega,by go_num,Below.then (Below.then hbel b2) b5,Qhd (fun j hj=>by
         by_cases hji:j=i
         ·rw [hji];exact Hgood.out
         ·exact hok.out j (by omega))⟩
        case measure=>simp [intOf];omega
       ·have hr0:(0:Int)≤r:=by rw [hge];exact hcm
        have hr1:decide ((0:Int)≤r)=true:=decide_eq_true hr0
        have hbad:okH l i=false:=by rw [hok2];exact decide_eq_false hcm
        have Hres:=Qhd (show rightB l=false from Q1g hil hbad)
        clear hbad hp hP8 hZ hkp hil hok2 hokp hip hc3 hge hrr hV hcm cc2 hq hgd hJl hr2 hJ hrq
        go_upto_region 4 with (first
         |((with_reducible refine Qgl 11 ?_);refine Qlw 123 10 b (off+i*15) aggHol hl8 hr ?_)
         |((with_reducible refine Qgs 11 ?_);refine Qsa 123 4 11 wr.heap.size P8 aggHol n4 hl8 (by rfl) ho8 hb4 (Nat.le_refl _) ?_;intro w2 z2 b2 _))
        have R2:=Qhd (Hr4.out _ _ z2)
        have k13:=fun u:Ext w2=>u.cell R2.out.2.2.1
        have k14:=fun u:Ext w2=>u.cell R2.out.2.2.2
        refine Q02 w2 32 (by kernel_rfl) (by kernel_rfl) (Below.refl _ _) ?_;simp only [List.take_succ_cons,List.take_zero,List.take_nil]
        (refine Q01 (by rfl) (fun K hK=>?_);go_simp;refine hK _ ?_;clear hK K)
        (refine Q01 (by rfl) (fun K hK=>?_);rw [if_pos (by rfl)];refine ⟨_,fun u=>Q08 _ (.tmp 12) (by rfl) _ _ (by rfl) aggAcc hlY (rangeAt.ext R2.out.2.1 u),hK _ ?_⟩;clear hK K;simp only [Act.put,Qzs])
        (refine Q01 (by rfl) (fun K hK=>?_);go_simp;first|(refine hK _ ?_;clear hK K)|(apply Exists.intro;refine ⟨fun _=>?_,hK _ ?_⟩;exact Nc.out _ (Below.then b2 (Ext.bel _));clear hK K))
        iterate 11 (refine Q01 (by rfl) (fun K hK=>?_);go_simp;refine hK _ ?_;clear hK K)
        (refine Q01 (by rfl) (fun K hK=>?_);go_simp;first|(refine hK _ ?_;clear hK K)|(apply Exists.intro;refine ⟨fun _=>?_,hK _ ?_⟩;exact Sc.out _ (Below.then b2 (Ext.bel _));clear hK K))
        iterate 10 (refine Q01 (by rfl) (fun K hK=>?_);go_simp;refine hK _ ?_;clear hK K)
        iterate 1 (refine Q01 (by rfl) (fun K hK=>?_);go_simp;refine hK _ ?_;clear hK K)
        (refine Q01 (by rfl) (fun K hK=>?_);rw [if_pos (by rfl)];refine ⟨_,fun u=>Q08 _ (.tmp 37) (by rfl) _ _ (by rfl) Q0v hlV (rangeAt.ext (World.rangeAt.below RQ.out b2) u),hK _ ?_⟩;clear hK K;simp only [Act.put,Qzs])
        (refine Q01 (by rfl) (fun K hK=>?_);go_simp;refine hK _ ?_;clear hK K)
        (refine Q01 (by rfl) (fun K hK=>?_);rw [if_pos (by rfl)];refine ⟨_,fun u=>Q08 _ (.tmp 39) (by rfl) _ _ (by rfl) Q0v hlZ (rangeAt.ext R2.out.1 u),hK _ ?_⟩;clear hK K;simp only [Act.put,Qzs])
        (refine Q01 (by rfl) (fun K hK=>?_);go_simp;first|(refine hK _ ?_;clear hK K)|(apply Exists.intro;refine ⟨fun _=>?_,hK _ ?_⟩;exact Cc.out _;clear hK K))
        iterate 2 (refine Q01 (by rfl) (fun K hK=>?_);go_simp;refine hK _ ?_;clear hK K)
        refine Q09 ?_
        intro y5 b5
        change wpList _ _ _ [_] _ _
        try simp only [Act.put,Qzs]
        go_wp2_with fail
        go_ret
        rw [Hres.out]
        exact ⟨rfl,Below.then (Below.then hbel b2) b5⟩
  ·obtain rfl:i=n:=by omega
   have hz:¬ (i:Int)<(i:Int):=by omega
   have Hres:=Qhd (show rightB l=true from Q96 (fun j hj=>hok.out j (by rw [←Hn.out];exact hj)))
   go_wp2_with fail
   go_ret
   rw [Hres.out]
   exact ⟨rfl,hbel⟩
def z7:List Value:=[.int .u64 0,.int .u64 0,.int .u64 0,.int .u64 0,.int .u64 0,.slice none 0 0,.slice none 0 0]
def zA:Acc:=⟨0,0,.slice none 0 0,[],.slice none 0 0,[]⟩
theorem zA_in (w:World):zA.In w:=⟨RowOf.nil b8 1 w,RowOf.nil spc 8 w⟩
end Go.Proofs.YtbdmkfjgnjfjbaaGreat
