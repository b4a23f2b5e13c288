/- The reference's pread. | The reference's pread, put together; what lies there while the reference reads a list. | The reference's PSplit. -/
import Derived.Test.YtcgpjceopnfahaaGreatWorldChecksK18
import Derived.Test.YtcgpjceopnfahaaGreatWorldChecksK09
import Derived.Test.YtcgpjceopnfahaaGreatWorldChecksK01
import Derived.Test.YtcgpjceopnfahaaGreatWorldChecksK10
set_option linter.unusedSimpArgs false
set_option linter.unusedVariables false
set_option maxHeartbeats 4000000
set_option maxRecDepth 100000
namespace Go.Proofs.YtcgpjceopnfahaaGreat
open Go.RowKit
theorem Blk.range0 {e:TypeId}{w:World}{g:Nat}{cs:List Value}(h:Blk e w g cs):w.rangeAt g 0 cs:=fun j v hv=>by rw [Nat.zero_add,h.cell,hv]
def prdB:List UInt8→Option (Nat × Nat × Bool)
 | []=>none
 | c::r =>
  if c.toNat<128 then some (0,1,false)
  else match hdr c.toNat (if c.toNat<192 then 128 else 192) r with
   | none=>none
   | some (k,r')=>if r'.length<k∨(c.toNat<192∧own1 k r'=true) then none else some (1+(r.length - r'.length),1+(r.length - r'.length)+k,decide (192≤c.toNat))
def PreadPost (o:Option (Nat × Nat × Bool))(w:World)(e:Ending)(w':World):Prop :=
 Below w.heap.size w w'∧match o with
 | none=>e=.returned (.tuple #[.int .i64 0,.int .i64 0,.bool false,.bool false])
 | some (f,t,l)=>e=.returned (.tuple #[.int .i64 (f:Int),.int .i64 (t:Int),.bool l,.bool true])
theorem ret4 {P:Program}{fn:Func}{R:Ending→World→Prop}{a:Act}{w:World}{v:Value}(hr:(results fn a.tmps).run P w=.ok v w)(hd:a.defers=[])(hR:R (.returned v) w):bodyPost P fn R .ret a w:=bodyPost_ret hr hd hR

theorem pread_low (a:Option Addr)(L c:Nat)(b:List UInt8)(hL:b.length=L)(h128:∀ x r,b=x::r→x.toNat<128)(w:World)(h:Bytes w (.slice a L c) b):Calls Tryz.prog 116 #[.slice a L c] w (PreadPost (prdB b) w):=by
 cases b with
 | nil =>
  obtain rfl:L=0:=hL.symm
  unfold prdB
  go_enter Tryz.func116,Tryz.ntmps116
  go_wp2
  refine ret4 (v:=.tuple #[.int .i64 0,.int .i64 0,.bool false,.bool false]) (by simp [results,Tryz.results116,go_sem]) rfl ⟨Below.refl _ _,rfl⟩
 | cons x r =>
  have hx:=h128 x r rfl
  have hp:prdB (x::r)=some (0,1,false):=by simp [prdB,hx]
  rw [hp]
  obtain ⟨q,off,rfl,hc⟩:=h.at 0 (by simp)
  simp only [List.getElem_cons_zero,Nat.add_zero] at hc
  have hpos:(0:Int)<(L:Int):=by simp at hL;omega
  have hne:((L:Int)==0)=false:=by rw [beq_eq_false_iff_ne];omega
  have hw:IntKind.i64.wrap (x.toNat:Int)=(x.toNat:Int):=IntWalk.i64_in _ (by omega)
  have hxi:(x.toNat:Int)<128:=by omega
  have hxd:decide ((x.toNat:Int)<128)=true:=by rw [decide_eq_true_eq];exact hxi
  clear hL hp h h128
  go_enter Tryz.func116,Tryz.ntmps116
  go_wp2
  refine ret4 (v:=.tuple #[.int .i64 0,.int .i64 1,.bool false,.bool true]) (by simp [results,Tryz.results116,go_sem]) rfl ⟨Below.refl _ _,rfl⟩
theorem pread_small (a:Option Addr)(L c:Nat)(x:UInt8)(r:List UInt8)(hL:(x::r).length=L)(hLs:L≤16777216)(h128:128≤x.toNat)(base n:Nat)(lst:Bool)(hbase:base=if x.toNat<192 then 128 else 192)(hlst:lst=decide (192≤x.toNat))(hn:n=x.toNat - base)(hn48:n<48)(w:World)(h:Bytes w (.slice a L c) (x::r)):Calls Tryz.prog 116 #[.slice a L c] w (PreadPost (prdB (x::r)) w):=by
 have hxlt:=x.toNat_lt
 have hn64:n<64∧(x.toNat - 128) % 64=n:=by
  rw [hn,hbase];split<;>omega
 obtain ⟨q,off,rfl,hc⟩:=h.at 0 (by simp)
 simp only [List.getElem_cons_zero,Nat.add_zero] at hc
 have hpos:(0:Int)<(L:Int):=by simp at hL;omega
 have hposn:0<L:=by omega
 have hne:((L:Int)==0)=false:=by rw [beq_eq_false_iff_ne];omega
 have hw:IntKind.i64.wrap (x.toNat:Int)=(x.toNat:Int):=IntWalk.i64_in _ (by omega)
 have hxi:¬ (x.toNat:Int)<128:=by omega
 have hxd:decide ((x.toNat:Int)<128)=false:=by rw [decide_eq_false_iff_not];exact hxi
 have hld:decide ((192:Int)≤(x.toNat:Int))=lst:=by rw [hlst];by_cases h192:192≤x.toNat<;>simp [h192]<;>omega
 obtain ⟨m,hm⟩:∃ m,m=x.toNat - 128:=⟨_,rfl⟩
 have hsub:IntKind.i64.wrap ((x.toNat:Int) - 128)=(m:Int):=by rw [show (x.toNat:Int) - 128=(m:Int) from by omega];exact IntWalk.i64_in _ (by omega)
 have hsub':(x.toNat:Int) - 128=(m:Int):=by omega
 have hrem:(m:Int) % 64=(n:Int):=by omega
 have hrem':Int.tmod (m:Int) 64=(n:Int):=by rw [Int.tmod_eq_emod_of_nonneg (by omega)];exact hrem
 have hp:prdB (x::r)=match hdr x.toNat base r with
   | none=>none
   | some (k,r')=>if r'.length<k∨(lst=false∧own1 k r'=true) then none else some (1+(r.length - r'.length),1+(r.length - r'.length)+k,lst):=by
  rw [prdB,if_neg (by omega),←hbase,hlst]
  cases hdr x.toNat base r with
  | none=>rfl
  | some kr =>
   obtain ⟨k,r'⟩:=kr
   simp only [decide_eq_false_iff_not,Nat.not_le]
 rw [hp]
 have hrl:r.length=L - 1:=by rw [←hL];simp
 have hb48:base≤x.toNat:=by rw [hbase];split<;>omega
 have hh:hdr x.toNat base r=some (n,r):=by unfold hdr;rw [if_pos (by omega),hn]
 rw [hh]
 dsimp only
 obtain ⟨M,hM⟩:∃ M,M=L - 1:=⟨_,rfl⟩
 have hrM:r.length=M:=by omega
 obtain ⟨to,hto⟩:∃ to,to=1+n:=⟨_,rfl⟩
 rw [hrM,Nat.sub_self,Nat.add_zero,←hto]
 have w1:IntKind.i64.wrap ((L:Int) - 1)=(M:Int):=by rw [show (L:Int) - 1=(M:Int) from by omega];exact IntWalk.i64_in _ (by omega)
 have w2:IntKind.i64.wrap (1+(n:Int))=(to:Int):=by rw [show 1+(n:Int)=(to:Int) from by omega];exact IntWalk.i64_in _ (by omega)
 have w1':(L:Int) - 1=(M:Int):=by omega
 have w2':1+(n:Int)=(to:Int):=by omega
 have d48:decide ((48:Int)≤(n:Int))=false:=by rw [decide_eq_false_iff_not];omega
 have d48n:¬ (48:Int)≤(n:Int):=by omega
 have hr1:∀ (y:UInt8) (t:List UInt8),r=y::t→(1:Int)<(L:Int)∧1<L∧w.cell? ⟨q,off+1,none⟩=some (.int .u8 (y.toNat:Int)):=by
  intro y t e
  subst e
  obtain ⟨b',off',e1,e2⟩:=h.at 1 (by simp)
  simp only [Option.some.injEq,Addr.mk.injEq,and_true] at e1
  obtain ⟨rfl,rfl⟩:=e1
  simp at hrM
  exact ⟨by omega,by omega,by simpa using e2⟩
 have hn63:(n:Int)<64:=by omega
 clear hp hh hlst hn hn64 hm hM hto hL hrl hb48
 by_cases hbig:M<n
 ·rw [if_pos (.inl hbig)]
  have g1:decide ((M:Int)<(n:Int))=true:=by rw [decide_eq_true_eq];omega
  have g2:decide (M<n)=true:=by rw [decide_eq_true_eq];omega
  have HrM:=Lib.hid hrM
  clear hrM hr1 h hbase
  go_enter Tryz.func116,Tryz.ntmps116
  go_wp2
  refine ret4 (v:=.tuple #[.int .i64 0,.int .i64 0,.bool false,.bool false]) (by simp [results,Tryz.results116,go_sem]) rfl ⟨Below.refl _ _,rfl⟩
 ·have g1:decide ((M:Int)<(n:Int))=false:=by rw [decide_eq_false_iff_not];omega
  have g2:decide (M<n)=false:=by rw [decide_eq_false_iff_not];omega
  cases lst with
  | true =>
   rw [if_neg (by rintro (hh|⟨hh,_⟩);exact hbig hh;cases hh)]
   have HrM:=Lib.hid hrM
   clear hrM hr1 h hbase
   go_enter Tryz.func116,Tryz.ntmps116
   go_wp2
   refine ret4 (v:=.tuple #[.int .i64 1,.int .i64 ((to:Nat):Int),.bool true,.bool true]) (by simp [results,Tryz.results116,go_sem]) rfl ⟨Below.refl _ _,rfl⟩
  | false =>
   by_cases h1:n=1
   ·have g3:((n:Int)==1)=true:=by rw [h1];rfl
    obtain ⟨y,t,ht⟩:∃ y t,r=y::t:=by
     cases hr':r with
     | nil=>rw [hr'] at hrM;simp at hrM;omega
     | cons y t=>exact ⟨y,t,rfl⟩
    have hown:own1 n r=decide (y.toNat<128):=by unfold own1;rw [ht,h1];simp
    rw [hown]
    obtain ⟨hfi,hfn,hcy⟩:(1:Int)<(L:Int)∧1<L∧w.cell? ⟨q,off+1,none⟩=some (.int .u8 (y.toNat:Int)):=hr1 y t ht
    by_cases hy:y.toNat<128
    ·rw [if_pos (.inr ⟨rfl,decide_eq_true hy⟩)]
     have hyi:(y.toNat:Int)<128:=by omega
     have hyd:decide ((y.toNat:Int)<128)=true:=by rw [decide_eq_true_eq];exact hyi
     clear hown ht h1
     have HrM:=Lib.hid hrM
     clear hrM hr1 h hbase
     go_enter Tryz.func116,Tryz.ntmps116
     go_wp2
     refine ret4 (v:=.tuple #[.int .i64 0,.int .i64 0,.bool false,.bool false]) (by simp [results,Tryz.results116,go_sem]) rfl ⟨Below.refl _ _,rfl⟩
    ·rw [if_neg (by rintro (hh|⟨_,hh⟩);exact hbig hh;exact hy (of_decide_eq_true hh))]
     have hyi:¬ (y.toNat:Int)<128:=by omega
     have hyd:decide ((y.toNat:Int)<128)=false:=by rw [decide_eq_false_iff_not];exact hyi
     clear hown ht h1
     have HrM:=Lib.hid hrM
     clear hrM hr1 h hbase
     go_enter Tryz.func116,Tryz.ntmps116
     go_wp2
     refine ret4 (v:=.tuple #[.int .i64 1,.int .i64 ((to:Nat):Int),.bool false,.bool true]) (by simp [results,Tryz.results116,go_sem]) rfl ⟨Below.refl _ _,rfl⟩
   ·have g3:((n:Int)==1)=false:=by rw [beq_eq_false_iff_ne];omega
    rw [if_neg (by rintro (hh|⟨_,hh⟩);exact hbig hh;unfold own1 at hh;simp at hh;exact h1 hh.1)]
    have HrM:=Lib.hid hrM
    clear hrM hr1 h hbase
    go_enter Tryz.func116,Tryz.ntmps116
    go_wp2
    refine ret4 (v:=.tuple #[.int .i64 1,.int .i64 ((to:Nat):Int),.bool false,.bool true]) (by simp [results,Tryz.results116,go_sem]) rfl ⟨Below.refl _ _,rfl⟩
theorem pread_big (a:Option Addr)(L c:Nat)(x:UInt8)(r:List UInt8)(hL:(x::r).length=L)(hLs:L≤16777216)(h128:128≤x.toNat)(base n:Nat)(lst:Bool)(hbase:base=if x.toNat<192 then 128 else 192)(hlst:lst=decide (192≤x.toNat))(hn:n=x.toNat - base)(hn48:48≤n)(w:World)(h:Bytes w (.slice a L c) (x::r)):Calls Tryz.prog 116 #[.slice a L c] w (PreadPost (prdB (x::r)) w):=by
 have hxlt:=x.toNat_lt
 have hn64:n<64∧(x.toNat - 128) % 64=n:=by
  rw [hn,hbase];split<;>omega
 obtain ⟨q,off,rfl,hc⟩:=h.at 0 (by simp)
 simp only [List.getElem_cons_zero,Nat.add_zero] at hc
 have hpos:(0:Int)<(L:Int):=by simp at hL;omega
 have hposn:0<L:=by omega
 have hne:((L:Int)==0)=false:=by rw [beq_eq_false_iff_ne];omega
 have hw:IntKind.i64.wrap (x.toNat:Int)=(x.toNat:Int):=IntWalk.i64_in _ (by omega)
 have hxi:¬ (x.toNat:Int)<128:=by omega
 have hxd:decide ((x.toNat:Int)<128)=false:=by rw [decide_eq_false_iff_not];exact hxi
 have hld:decide ((192:Int)≤(x.toNat:Int))=lst:=by rw [hlst];by_cases h192:192≤x.toNat<;>simp [h192]<;>omega
 obtain ⟨m,hm⟩:∃ m,m=x.toNat - 128:=⟨_,rfl⟩
 have hsub:IntKind.i64.wrap ((x.toNat:Int) - 128)=(m:Int):=by rw [show (x.toNat:Int) - 128=(m:Int) from by omega];exact IntWalk.i64_in _ (by omega)
 have hsub':(x.toNat:Int) - 128=(m:Int):=by omega
 have hrem:(m:Int) % 64=(n:Int):=by omega
 have hrem':Int.tmod (m:Int) 64=(n:Int):=by rw [Int.tmod_eq_emod_of_nonneg (by omega)];exact hrem
 have hp:prdB (x::r)=match hdr x.toNat base r with
   | none=>none
   | some (k,r')=>if r'.length<k∨(lst=false∧own1 k r'=true) then none else some (1+(r.length - r'.length),1+(r.length - r'.length)+k,lst):=by
  rw [prdB,if_neg (by omega),←hbase,hlst]
  cases hdr x.toNat base r with
  | none=>rfl
  | some kr =>
   obtain ⟨k,r'⟩:=kr
   simp only [decide_eq_false_iff_not,Nat.not_le]
 rw [hp]
 have hrl:r.length=L - 1:=by rw [←hL];simp
 have hb48:base≤x.toNat:=by rw [hbase];split<;>omega
 obtain ⟨k,hk⟩:∃ k,k=n - 47:=⟨_,rfl⟩
 have hkk:x.toNat - base - 48+1=k:=by omega
 have d48:decide ((48:Int)≤(n:Int))=true:=by rw [decide_eq_true_eq];omega
 have d48n:(48:Int)≤(n:Int):=by omega
 have hk16:k≤16∧1≤k:=by omega
 have wk:IntKind.i64.wrap ((n:Int) - 47)=(k:Int):=by rw [show (n:Int) - 47=(k:Int) from by omega];exact IntWalk.i64_in _ (by omega)
 have wk':(n:Int) - 47=(k:Int):=by omega
 have hhd:hdr x.toNat base r=if r.length<k then none else if (r.take k).head?=some 0∨8<k then none else if numL (r.take k)<48 then none else some (numL (r.take k),r.drop k):=by
  unfold hdr
  rw [if_neg (by omega),hkk]
 have hn63:(n:Int)<64:=by omega
 by_cases h8:8<k
 ·have hh:hdr x.toNat base r=none:=by rw [hhd];split;rfl;rw [if_pos (.inr h8)]
  rw [hh]
  have d8:decide ((8:Int)<(k:Int))=true:=by rw [decide_eq_true_eq];omega
  have d8i:(8:Int)<(k:Int):=by omega
  clear hp hh hhd hlst hn hn64 hm hL hrl hb48 hkk hk hbase
  go_enter Tryz.func116,Tryz.ntmps116
  go_wp2
  refine ret4 (v:=.tuple #[.int .i64 0,.int .i64 0,.bool false,.bool false]) (by simp [results,Tryz.results116,go_sem]) rfl ⟨Below.refl _ _,rfl⟩
 ·have d8:decide ((8:Int)<(k:Int))=false:=by rw [decide_eq_false_iff_not];omega
  have d8i:¬ (8:Int)<(k:Int):=by omega
  obtain ⟨f,hf⟩:∃ f,f=1+k:=⟨_,rfl⟩
  have wf:IntKind.i64.wrap (1+(k:Int))=(f:Int):=by rw [show 1+(k:Int)=(f:Int) from by omega];exact IntWalk.i64_in _ (by omega)
  have wf':1+(k:Int)=(f:Int):=by omega
  by_cases hsh:L<f
  ·have hh:hdr x.toNat base r=none:=by rw [hhd,if_pos (by omega)]
   rw [hh]
   have ds:decide ((L:Int)<(f:Int))=true:=by rw [decide_eq_true_eq];omega
   have ds':decide (L<f)=true:=by rw [decide_eq_true_eq];omega
   clear hp hh hhd hlst hn hn64 hm hL hrl hb48 hkk hk hbase hf
   go_enter Tryz.func116,Tryz.ntmps116
   go_wp2
   refine ret4 (v:=.tuple #[.int .i64 0,.int .i64 0,.bool false,.bool false]) (by simp [results,Tryz.results116,go_sem]) rfl ⟨Below.refl _ _,rfl⟩
  ·have ds:decide ((L:Int)<(f:Int))=false:=by rw [decide_eq_false_iff_not];omega
   have ds':decide (L<f)=false:=by rw [decide_eq_false_iff_not];omega
   have hl:((x::r).take f).drop 1=r.take k:=by rw [hf,Nat.add_comm,List.take_succ_cons,List.drop_succ_cons,List.drop_zero]
   have h':=h
   rw [←hL] at h'
   obtain ⟨a1,c1,q1,r1⟩:=h'.between elU8 1 f (by omega) (by omega) 1 (f:Int) rfl rfl
   rw [hL] at q1
   rw [hl,show f - 1=k from by omega] at r1
   rw [show f - 1=k from by omega] at q1
   have hlk:(r.take k).length=k:=by rw [List.length_take];omega
   have pt:=fun (u:World) (hb:Bytes u (.slice a1 (r.take k).length c1) (r.take k))=>ptonum_any a1 c1 (r.take k) u hb
   rw [hlk] at pt
   have hwL:IntKind.u64.wrap (L:Int)=(L:Int):=IntWalk.u64_in _ (by omega)
   obtain ⟨l,hll⟩:∃ l,l=r.take k:=⟨_,rfl⟩
   rw [←hll] at pt hlk r1 hhd
   have hlrow:Hid (Bytes w (.slice a1 k c1) l):=Lib.hid r1
   have Hlk:=Lib.hid hlk
   have hfL:¬ r.length<k:=by omega
   rw [if_neg hfL] at hhd
   clear r1 hl h' hll
   by_cases hz:l.head?=some 0
   ·have hh:hdr x.toNat base r=none:=by rw [hhd,if_pos (.inl hz)]
    rw [hh]
    have hnok:okNum l=false:=by unfold okNum;rw [hz];simp
    rw [(num_no hnok).1,(num_no hnok).2] at pt
    obtain ⟨V,hV⟩:∃ V,V=0:=⟨_,rfl⟩
    have HV0:=Lib.hid (show lim V 0=V from by rw [hV];rfl)
    rw [←hV] at pt
    have Pt:=Lib.hid pt
    clear hp hh hhd hlst hn hn64 hm hL hrl hb48 hkk hk hbase hf pt hlk hz hnok hV
    go_enter Tryz.func116,Tryz.ntmps116
    go_wp2_with (first
     |(go_at_call 69;(with_reducible refine (Pt.out _ (hlrow.out)).mono ?_);rintro e w2 ⟨rfl,b2⟩)
     |((with_reducible show wpList _ _ _ (⟨none,.store _ _ (.tmp 44),_,_,_,_⟩::_) _ _);refine wpList_storeA (o:=⟨none,_,_,_,_,_⟩) (by rfl) 24 (.tmp 9) (.tmp 44) (by rfl) w2.heap.size (wcs V) (by rfl) (by rfl) aggWord (Blk.new w2 24 z4) (wcs_len _) (by rfl) (wcs_one _) (Below.alloc (Below.refl w2.heap.size w2) (Nat.le_refl _) _) (Nat.le_refl _) ?_;intro w3 hh3 b3 _;have hV0:=hh3.wat 0 (by omega);rw [HV0.out] at hV0;have b23:=Below.then b2 b3;have hq:=hh3.range0))
    refine ret4 (v:=.tuple #[.int .i64 0,.int .i64 0,.bool false,.bool false]) (by simp [results,Tryz.results116,go_sem]) rfl ⟨b23,rfl⟩
   ·have hok:okNum l=true:=by unfold okNum;simp [hlk,hz];omega
    have hN64:=numL_lt8 l (by rw [hlk];omega)
    have hlast:last32 l=l:=last_small l (by rw [hlk];omega)
    rw [(num_yes hok).1,(num_yes hok).2,hlast] at pt
    have hpn:numB (numL l)=l:=by have:=num_same l;rw [hok,hlast] at this;simpa using this
    rw [if_neg (by rintro (hh|hh);exact hz hh;exact h8 hh)] at hhd
    obtain ⟨V,hV⟩:∃ V,V=numL l:=⟨_,rfl⟩
    rw [←hV] at pt hN64 hpn hhd
    have pn:∀ u:World,Calls Tryz.prog 53 #[.agg (wcs V).toArray] u _:=fun u=>pnum_any V u
    rw [hpn] at pn
    have HV0:=Lib.hid (show lim V 0=V from by unfold lim;simp;omega)
    have Pt:=Lib.hid pt
    have Pn:=Lib.hid pn
    clear pt pn hpn hok hlast hV hz
    by_cases hv48:V<48
    ·have hh:hdr x.toNat base r=none:=by rw [hhd,if_pos hv48]
     rw [hh]
     have dv:decide ((V:Int)<48)=true:=by rw [decide_eq_true_eq];omega
     have dvi:(V:Int)<48:=by omega
     clear hp hh hhd hlst hn hn64 hm hL hrl hb48 hkk hk hbase hf hlk
     go_enter Tryz.func116,Tryz.ntmps116
     go_wp2_with (first
      |(go_at_call 69;(with_reducible refine (Pt.out _ (hlrow.out)).mono ?_);rintro e w2 ⟨rfl,b2⟩)
      |((with_reducible show wpList _ _ _ (⟨none,.store _ _ (.tmp 44),_,_,_,_⟩::_) _ _);refine wpList_storeA (o:=⟨none,_,_,_,_,_⟩) (by rfl) 24 (.tmp 9) (.tmp 44) (by rfl) w2.heap.size (wcs V) (by rfl) (by rfl) aggWord (Blk.new w2 24 z4) (wcs_len _) (by rfl) (wcs_one _) (Below.alloc (Below.refl w2.heap.size w2) (Nat.le_refl _) _) (Nat.le_refl _) ?_;intro w3 hh3 b3 _;have hV0:=hh3.wat 0 (by omega);rw [HV0.out] at hV0;have b23:=Below.then b2 b3;have hq:=hh3.range0))
     refine ret4 (v:=.tuple #[.int .i64 0,.int .i64 0,.bool false,.bool false]) (by simp [results,Tryz.results116,go_sem]) rfl ⟨b23,rfl⟩
    ·rw [if_neg hv48] at hhd
     rw [hhd]
     dsimp only
     have dv:decide ((V:Int)<48)=false:=by rw [decide_eq_false_iff_not];omega
     have dvi:¬ (V:Int)<48:=by omega
     by_cases hLV:L<V
     ·rw [if_pos (.inl (by rw [List.length_drop];omega))]
      have dl:decide ((L:Int)<(V:Int))=true:=by rw [decide_eq_true_eq];omega
      have dl':decide (L<V)=true:=by rw [decide_eq_true_eq];omega
      clear hp hhd hlst hn hn64 hm hL hrl hb48 hkk hk hbase hf hlk
      go_enter Tryz.func116,Tryz.ntmps116
      go_wp2_with (first
       |(go_at_call 69;(with_reducible refine (Pt.out _ (hlrow.out)).mono ?_);rintro e w2 ⟨rfl,b2⟩)
       |((with_reducible show wpList _ _ _ (⟨none,.store _ _ (.tmp 44),_,_,_,_⟩::_) _ _);refine wpList_storeA (o:=⟨none,_,_,_,_,_⟩) (by rfl) 24 (.tmp 9) (.tmp 44) (by rfl) w2.heap.size (wcs V) (by rfl) (by rfl) aggWord (Blk.new w2 24 z4) (wcs_len _) (by rfl) (wcs_one _) (Below.alloc (Below.refl w2.heap.size w2) (Nat.le_refl _) _) (Nat.le_refl _) ?_;intro w3 hh3 b3 _;have hV0:=hh3.wat 0 (by omega);rw [HV0.out] at hV0;have b23:=Below.then b2 b3;have hq:=hh3.range0))
      refine ret4 (v:=.tuple #[.int .i64 0,.int .i64 0,.bool false,.bool false]) (by simp [results,Tryz.results116,go_sem]) rfl ⟨b23,rfl⟩
     ·have dl:decide ((L:Int)<(V:Int))=false:=by rw [decide_eq_false_iff_not];omega
      have dl':decide (L<V)=false:=by rw [decide_eq_false_iff_not];omega
      have hwV:IntKind.i64.wrap (V:Int)=(V:Int):=IntWalk.i64_in _ (by omega)
      obtain ⟨M,hM⟩:∃ M,M=L - f:=⟨_,rfl⟩
      have hrM:(r.drop k).length=M:=by rw [List.length_drop];omega
      obtain ⟨to,hto⟩:∃ to,to=f+V:=⟨_,rfl⟩
      have e1:1+(r.length - (r.drop k).length)=f:=by rw [List.length_drop];omega
      rw [e1,hrM,←hto]
      have w1:IntKind.i64.wrap ((L:Int) - (f:Int))=(M:Int):=by rw [show (L:Int) - (f:Int)=(M:Int) from by omega];exact IntWalk.i64_in _ (by omega)
      have w2:IntKind.i64.wrap ((f:Int)+(V:Int))=(to:Int):=by rw [show (f:Int)+(V:Int)=(to:Int) from by omega];exact IntWalk.i64_in _ (by omega)
      have w1':(L:Int) - (f:Int)=(M:Int):=by omega
      have w2':(f:Int)+(V:Int)=(to:Int):=by omega
      have hr1:∀ (y:UInt8) (t:List UInt8),r.drop k=y::t→(f:Int)<(L:Int)∧f<L∧w.cell? ⟨q,off+f,none⟩=some (.int .u8 (y.toNat:Int)):=by
       intro y t e
       have hy:=congrArg (fun z=>z[0]?) e
       simp only [List.getElem?_drop,Nat.add_zero,List.getElem?_cons_zero] at hy
       have hy1:=(List.getElem?_eq_some_iff.1 hy).1
       obtain ⟨b',off',e1,e2⟩:=h.at f (by simp;omega)
       simp only [Option.some.injEq,Addr.mk.injEq,and_true] at e1
       obtain ⟨rfl,rfl⟩:=e1
       have e3:(x::r)[f]?=some y:=by rw [hf,Nat.add_comm,List.getElem?_cons_succ];exact hy
       rw [List.getElem?_eq_getElem (by simp;omega)] at e3
       rw [Option.some.inj e3] at e2
       exact ⟨by omega,by omega,e2⟩
      obtain ⟨r',hr'⟩:∃ r',r'=r.drop k:=⟨_,rfl⟩
      rw [←hr'] at hrM hr1
      rw [←hr']
      clear hp hhd hlst hn hn64 hm hM hto hL hrl hb48 hkk hk hf hlk e1 hfL hr'
      by_cases hbig:M<V
      ·rw [if_pos (.inl hbig)]
       have g1:decide ((M:Int)<(V:Int))=true:=by rw [decide_eq_true_eq];omega
       have g2:decide (M<V)=true:=by rw [decide_eq_true_eq];omega
       have HrM:=Lib.hid hrM
       have hcyw:Hid (∀ u:World,Below w.heap.size w u→True):=Lib.hid (fun _ _=>trivial)
       clear hrM hr1 h hbase
       go_enter Tryz.func116,Tryz.ntmps116
       go_wp2_with (first
        |(go_at_call 69;(with_reducible refine (Pt.out _ (hlrow.out)).mono ?_);rintro e w2 ⟨rfl,b2⟩)
        |((with_reducible show wpList _ _ _ (⟨none,.store _ _ (.tmp 44),_,_,_,_⟩::_) _ _);refine wpList_storeA (o:=⟨none,_,_,_,_,_⟩) (by rfl) 24 (.tmp 9) (.tmp 44) (by rfl) w2.heap.size (wcs V) (by rfl) (by rfl) aggWord (Blk.new w2 24 z4) (wcs_len _) (by rfl) (wcs_one _) (Below.alloc (Below.refl w2.heap.size w2) (Nat.le_refl _) _) (Nat.le_refl _) ?_;intro w3 hh3 b3 _;have hV0:=hh3.wat 0 (by omega);rw [HV0.out] at hV0;have b23:=Below.then b2 b3;have hq:=hh3.range0)
        |(refine wpList_loadW (o:=⟨some 62,_,_,_,_,_⟩) 24 (.tmp 9) (by rfl) w2.heap.size 0 (by rfl) aggWord (wcs_len _) hq (by rfl) ?_)
        |(go_at_call 53;(with_reducible refine (Pn.out _).mono ?_);rintro e w4 ⟨v4,rfl,r4,b4⟩;obtain ⟨a4,c4,rfl,_⟩:=r4.form' k Hlk.out;have b24:=Below.then b23 b4;have hV4:=(hh3.kept b4).wat 0 (by omega);rw [HV0.out] at hV4;have hcy4:=hcyw.out w4 b24))
       refine ret4 (v:=.tuple #[.int .i64 0,.int .i64 0,.bool false,.bool false]) (by simp [results,Tryz.results116,go_sem]) rfl ⟨b24,rfl⟩
      ·have g1:decide ((M:Int)<(V:Int))=false:=by rw [decide_eq_false_iff_not];omega
       have g2:decide (M<V)=false:=by rw [decide_eq_false_iff_not];omega
       cases lst with
       | true =>
        rw [if_neg (by rintro (hh|⟨hh,_⟩);exact hbig hh;cases hh)]
        have HrM:=Lib.hid hrM
        have hcyw:Hid (∀ u:World,Below w.heap.size w u→True):=Lib.hid (fun _ _=>trivial)
        clear hrM hr1 h hbase
        go_enter Tryz.func116,Tryz.ntmps116
        go_wp2_with (first
         |(go_at_call 69;(with_reducible refine (Pt.out _ (hlrow.out)).mono ?_);rintro e w2 ⟨rfl,b2⟩)
         |((with_reducible show wpList _ _ _ (⟨none,.store _ _ (.tmp 44),_,_,_,_⟩::_) _ _);refine wpList_storeA (o:=⟨none,_,_,_,_,_⟩) (by rfl) 24 (.tmp 9) (.tmp 44) (by rfl) w2.heap.size (wcs V) (by rfl) (by rfl) aggWord (Blk.new w2 24 z4) (wcs_len _) (by rfl) (wcs_one _) (Below.alloc (Below.refl w2.heap.size w2) (Nat.le_refl _) _) (Nat.le_refl _) ?_;intro w3 hh3 b3 _;have hV0:=hh3.wat 0 (by omega);rw [HV0.out] at hV0;have b23:=Below.then b2 b3;have hq:=hh3.range0)
         |(refine wpList_loadW (o:=⟨some 62,_,_,_,_,_⟩) 24 (.tmp 9) (by rfl) w2.heap.size 0 (by rfl) aggWord (wcs_len _) hq (by rfl) ?_)
         |(go_at_call 53;(with_reducible refine (Pn.out _).mono ?_);rintro e w4 ⟨v4,rfl,r4,b4⟩;obtain ⟨a4,c4,rfl,_⟩:=r4.form' k Hlk.out;have b24:=Below.then b23 b4;have hV4:=(hh3.kept b4).wat 0 (by omega);rw [HV0.out] at hV4;have hcy4:=hcyw.out w4 b24))
        refine ret4 (v:=.tuple #[.int .i64 f,.int .i64 ((to:Nat):Int),.bool true,.bool true]) (by simp [results,Tryz.results116,go_sem]) rfl ⟨b24,rfl⟩
       | false =>
        by_cases h1:V=1
        ·have g3:((V:Int)==1)=true:=by rw [h1];rfl
         obtain ⟨y,t,ht⟩:∃ y t,r'=y::t:=by
          cases hr':r' with
          | nil=>rw [hr'] at hrM;simp at hrM;omega
          | cons y t=>exact ⟨y,t,rfl⟩
         have hown:own1 V r'=decide (y.toNat<128):=by unfold own1;rw [ht,h1];simp
         rw [hown]
         obtain ⟨hfi,hfn,hcy⟩:(f:Int)<(L:Int)∧f<L∧w.cell? ⟨q,off+f,none⟩=some (.int .u8 (y.toNat:Int)):=hr1 y t ht
         by_cases hy:y.toNat<128
         ·rw [if_pos (.inr ⟨rfl,decide_eq_true hy⟩)]
          have hyi:(y.toNat:Int)<128:=by omega
          have hyd:decide ((y.toNat:Int)<128)=true:=by rw [decide_eq_true_eq];exact hyi
          clear hown ht h1
          have HrM:=Lib.hid hrM
          have hcyw:Hid (∀ u:World,Below w.heap.size w u→u.cell? ⟨q,off+f,none⟩=some (.int .u8 (y.toNat:Int))):=Lib.hid (fun u hb=>by rw [hb.cell (World.block_lt_of_cell? w _ hcy)];exact hcy)
          clear hrM hr1 h hbase
          go_enter Tryz.func116,Tryz.ntmps116
          go_wp2_with (first
           |(go_at_call 69;(with_reducible refine (Pt.out _ (hlrow.out)).mono ?_);rintro e w2 ⟨rfl,b2⟩)
           |((with_reducible show wpList _ _ _ (⟨none,.store _ _ (.tmp 44),_,_,_,_⟩::_) _ _);refine wpList_storeA (o:=⟨none,_,_,_,_,_⟩) (by rfl) 24 (.tmp 9) (.tmp 44) (by rfl) w2.heap.size (wcs V) (by rfl) (by rfl) aggWord (Blk.new w2 24 z4) (wcs_len _) (by rfl) (wcs_one _) (Below.alloc (Below.refl w2.heap.size w2) (Nat.le_refl _) _) (Nat.le_refl _) ?_;intro w3 hh3 b3 _;have hV0:=hh3.wat 0 (by omega);rw [HV0.out] at hV0;have b23:=Below.then b2 b3;have hq:=hh3.range0)
           |(refine wpList_loadW (o:=⟨some 62,_,_,_,_,_⟩) 24 (.tmp 9) (by rfl) w2.heap.size 0 (by rfl) aggWord (wcs_len _) hq (by rfl) ?_)
           |(go_at_call 53;(with_reducible refine (Pn.out _).mono ?_);rintro e w4 ⟨v4,rfl,r4,b4⟩;obtain ⟨a4,c4,rfl,_⟩:=r4.form' k Hlk.out;have b24:=Below.then b23 b4;have hV4:=(hh3.kept b4).wat 0 (by omega);rw [HV0.out] at hV4;have hcy4:=hcyw.out w4 b24))
          refine ret4 (v:=.tuple #[.int .i64 0,.int .i64 0,.bool false,.bool false]) (by simp [results,Tryz.results116,go_sem]) rfl ⟨b24,rfl⟩
         ·rw [if_neg (by rintro (hh|⟨_,hh⟩);exact hbig hh;exact hy (of_decide_eq_true hh))]
          have hyi:¬ (y.toNat:Int)<128:=by omega
          have hyd:decide ((y.toNat:Int)<128)=false:=by rw [decide_eq_false_iff_not];exact hyi
          clear hown ht h1
          have HrM:=Lib.hid hrM
          have hcyw:Hid (∀ u:World,Below w.heap.size w u→u.cell? ⟨q,off+f,none⟩=some (.int .u8 (y.toNat:Int))):=Lib.hid (fun u hb=>by rw [hb.cell (World.block_lt_of_cell? w _ hcy)];exact hcy)
          clear hrM hr1 h hbase
          go_enter Tryz.func116,Tryz.ntmps116
          go_wp2_with (first
           |(go_at_call 69;(with_reducible refine (Pt.out _ (hlrow.out)).mono ?_);rintro e w2 ⟨rfl,b2⟩)
           |((with_reducible show wpList _ _ _ (⟨none,.store _ _ (.tmp 44),_,_,_,_⟩::_) _ _);refine wpList_storeA (o:=⟨none,_,_,_,_,_⟩) (by rfl) 24 (.tmp 9) (.tmp 44) (by rfl) w2.heap.size (wcs V) (by rfl) (by rfl) aggWord (Blk.new w2 24 z4) (wcs_len _) (by rfl) (wcs_one _) (Below.alloc (Below.refl w2.heap.size w2) (Nat.le_refl _) _) (Nat.le_refl _) ?_;intro w3 hh3 b3 _;have hV0:=hh3.wat 0 (by omega);rw [HV0.out] at hV0;have b23:=Below.then b2 b3;have hq:=hh3.range0)
           |(refine wpList_loadW (o:=⟨some 62,_,_,_,_,_⟩) 24 (.tmp 9) (by rfl) w2.heap.size 0 (by rfl) aggWord (wcs_len _) hq (by rfl) ?_)
           |(go_at_call 53;(with_reducible refine (Pn.out _).mono ?_);rintro e w4 ⟨v4,rfl,r4,b4⟩;obtain ⟨a4,c4,rfl,_⟩:=r4.form' k Hlk.out;have b24:=Below.then b23 b4;have hV4:=(hh3.kept b4).wat 0 (by omega);rw [HV0.out] at hV4;have hcy4:=hcyw.out w4 b24))
          refine ret4 (v:=.tuple #[.int .i64 f,.int .i64 ((to:Nat):Int),.bool false,.bool true]) (by simp [results,Tryz.results116,go_sem]) rfl ⟨b24,rfl⟩
        ·have g3:((V:Int)==1)=false:=by rw [beq_eq_false_iff_ne];omega
         rw [if_neg (by rintro (hh|⟨_,hh⟩);exact hbig hh;unfold own1 at hh;simp at hh;exact h1 hh.1)]
         have HrM:=Lib.hid hrM
         have hcyw:Hid (∀ u:World,Below w.heap.size w u→True):=Lib.hid (fun _ _=>trivial)
         clear hrM hr1 h hbase
         go_enter Tryz.func116,Tryz.ntmps116
         go_wp2_with (first
          |(go_at_call 69;(with_reducible refine (Pt.out _ (hlrow.out)).mono ?_);rintro e w2 ⟨rfl,b2⟩)
          |((with_reducible show wpList _ _ _ (⟨none,.store _ _ (.tmp 44),_,_,_,_⟩::_) _ _);refine wpList_storeA (o:=⟨none,_,_,_,_,_⟩) (by rfl) 24 (.tmp 9) (.tmp 44) (by rfl) w2.heap.size (wcs V) (by rfl) (by rfl) aggWord (Blk.new w2 24 z4) (wcs_len _) (by rfl) (wcs_one _) (Below.alloc (Below.refl w2.heap.size w2) (Nat.le_refl _) _) (Nat.le_refl _) ?_;intro w3 hh3 b3 _;have hV0:=hh3.wat 0 (by omega);rw [HV0.out] at hV0;have b23:=Below.then b2 b3;have hq:=hh3.range0)
          |(refine wpList_loadW (o:=⟨some 62,_,_,_,_,_⟩) 24 (.tmp 9) (by rfl) w2.heap.size 0 (by rfl) aggWord (wcs_len _) hq (by rfl) ?_)
          |(go_at_call 53;(with_reducible refine (Pn.out _).mono ?_);rintro e w4 ⟨v4,rfl,r4,b4⟩;obtain ⟨a4,c4,rfl,_⟩:=r4.form' k Hlk.out;have b24:=Below.then b23 b4;have hV4:=(hh3.kept b4).wat 0 (by omega);rw [HV0.out] at hV4;have hcy4:=hcyw.out w4 b24))
         refine ret4 (v:=.tuple #[.int .i64 f,.int .i64 ((to:Nat):Int),.bool false,.bool true]) (by simp [results,Tryz.results116,go_sem]) rfl ⟨b24,rfl⟩
theorem pread_any (a:Option Addr)(L c:Nat)(b:List UInt8)(hL:b.length=L)(hLs:L≤16777216)(w:World)(h:Bytes w (.slice a L c) b):Calls Tryz.prog 116 #[.slice a L c] w (PreadPost (prdB b) w):=by
 cases b with
 | nil=>exact pread_low a L c [] hL (by simp) w h
 | cons x r =>
  by_cases h128:x.toNat<128
  ·exact pread_low a L c (x::r) hL (fun y s e=>by cases e;exact h128) w h
  ·by_cases h48:x.toNat - (if x.toNat<192 then 128 else 192)<48
   ·exact pread_small a L c x r hL hLs (by omega) _ _ _ rfl rfl rfl h48 w h
   ·exact pread_big a L c x r hL hLs (by omega) _ _ _ rfl rfl rfl (by omega) w h
theorem prdB_cons (x:UInt8)(r:List UInt8):prdB (x::r)=if x.toNat<128 then some (0,1,false)
  else match hdr x.toNat (if x.toNat<192 then 128 else 192) r with
   | none=>none
   | some (k,r')=>if r'.length<k∨(x.toNat<192∧own1 k r'=true) then none else some (1+(r.length - r'.length),1+(r.length - r'.length)+k,decide (192≤x.toNat)):=rfl
theorem par_prd_none (n:Nat)(b:List UInt8)(h:prdB b=none):par (n+1) b=none:=by
 cases b with
 | nil=>rfl
 | cons x r =>
  rw [prdB_cons] at h
  by_cases h128:x.toNat<128
  ·rw [if_pos h128] at h;simp at h
  ·rw [if_neg h128] at h
   rw [par,if_neg h128]
   by_cases h192:x.toNat<192
   ·rw [if_pos h192] at h
    rw [if_pos h192]
    cases hh:hdr x.toNat 128 r with
    | none=>rfl
    | some kr =>
     obtain ⟨k,r'⟩:=kr
     rw [hh] at h
     dsimp only at h ⊢
     by_cases hc:r'.length<k∨own1 k r'=true
     ·rw [if_pos hc]
     ·rw [if_neg (by rintro (h|⟨_,h⟩);exact hc (.inl h);exact hc (.inr h))] at h
      simp at h
   ·rw [if_neg h192] at h
    rw [if_neg h192]
    cases hh:hdr x.toNat 192 r with
    | none=>rfl
    | some kr =>
     obtain ⟨k,r'⟩:=kr
     rw [hh] at h
     dsimp only at h ⊢
     by_cases hc:r'.length<k
     ·rw [if_pos hc]
     ·rw [if_neg (by rintro (h|⟨h,_⟩);exact hc h;exact h192 h)] at h
      simp at h
theorem par_prd_some (n:Nat)(b:List UInt8)(f t:Nat)(l:Bool)(h:prdB b=some (f,t,l)):f≤t∧t≤b.length∧(l=true→1≤f)∧par (n+1) b=if l=true then (match parL (par n) (t - f) ((b.take t).drop f) with
   | none=>none
   | some ks=>some (.lst ks,b.drop t)) else some (.txt ((b.take t).drop f),b.drop t):=by
 cases b with
 | nil=>simp [prdB] at h
 | cons x r =>
  rw [prdB_cons] at h
  by_cases h128:x.toNat<128
  ·rw [if_pos h128] at h
   simp only [Option.some.injEq,Prod.mk.injEq] at h
   obtain ⟨rfl,rfl,rfl⟩:=h
   refine ⟨by omega,by simp,by simp,?_⟩
   simp [par,h128]
  ·rw [if_neg h128] at h
   rw [par,if_neg h128]
   by_cases h192:x.toNat<192
   ·rw [if_pos h192] at h
    rw [if_pos h192]
    cases hh:hdr x.toNat 128 r with
    | none=>rw [hh] at h;simp at h
    | some kr =>
     obtain ⟨k,r'⟩:=kr
     obtain ⟨j,hj,hjl⟩:=hdr_suf hh
     rw [hh] at h
     dsimp only at h ⊢
     by_cases hc:r'.length<k∨own1 k r'=true
     ·rw [if_pos (by rcases hc with h|h;exact .inl h;exact .inr ⟨h192,h⟩)] at h
      simp at h
     ·rw [if_neg (by rintro (h|⟨_,h⟩);exact hc (.inl h);exact hc (.inr h))] at h
      rw [if_neg hc]
      have hl:r'.length=r.length - j:=by rw [hj,List.length_drop]
      have hk:k≤r'.length:=by have:¬ r'.length<k:=fun h=>hc (.inl h);omega
      have e1:1+(r.length - r'.length)=j+1:=by omega
      rw [e1] at h
      simp only [Option.some.injEq,Prod.mk.injEq] at h
      obtain ⟨rfl,rfl,rfl⟩:=h
      refine ⟨by omega,by simp;omega,by omega,?_⟩
      rw [if_neg (by simp;omega),show j+1+k=(j+k)+1 from by omega,List.take_succ_cons,List.drop_succ_cons,List.drop_succ_cons,hj,List.drop_drop,List.take_drop]
   ·rw [if_neg h192] at h
    rw [if_neg h192]
    cases hh:hdr x.toNat 192 r with
    | none=>rw [hh] at h;simp at h
    | some kr =>
     obtain ⟨k,r'⟩:=kr
     obtain ⟨j,hj,hjl⟩:=hdr_suf hh
     rw [hh] at h
     dsimp only at h ⊢
     by_cases hc:r'.length<k
     ·rw [if_pos (.inl hc)] at h
      simp at h
     ·rw [if_neg (by rintro (h|⟨h,_⟩);exact hc h;exact h192 h)] at h
      rw [if_neg hc]
      have hl:r'.length=r.length - j:=by rw [hj,List.length_drop]
      have e1:1+(r.length - r'.length)=j+1:=by omega
      rw [e1] at h
      simp only [Option.some.injEq,Prod.mk.injEq] at h
      obtain ⟨rfl,rfl,rfl⟩:=h
      refine ⟨by omega,by simp;omega,by omega,?_⟩
      rw [if_pos (by simp;omega),show j+1+k - (j+1)=k from by omega,show j+1+k=(j+k)+1 from by omega,List.take_succ_cons,List.drop_succ_cons,List.drop_succ_cons,hj,List.drop_drop,List.take_drop]
      rfl
structure LrW (w:World)(g9:Nat)(kv:Value)(ks:List Itm)(u:World):Prop where
 hb:Below w.heap.size w u
 hz:Blk 77 u w.heap.size [.bool false,.slice none 0 0,.slice none 0 0]
 hm:Blk 77 u g9 [.bool true,.slice none 0 0,kv]
 hO:OwnOf icells 3 77 u (g9+1) kv ks
 hF:∀ k∈ks,Fp (fun x=>g9+1≤x∧kv.ownBlock≠some x) u k∧BareI k
 h1:w.heap.size<g9
section
variable {w:World} {g9:Nat} {kv:Value} {ks:List Itm} {u:World}
theorem LrW.kept {u':World}(h:LrW w g9 kv ks u)(hb:Below u.heap.size u u'):LrW w g9 kv ks u' :=
 ⟨Below.then h.hb hb,h.hz.kept hb,h.hm.kept hb,h.hO.kept hb,fun k hk=>⟨(h.hF k hk).1.to hb.size (fun x hx hl=>⟨hb.block x hl,hx⟩),(h.hF k hk).2⟩,h.h1⟩
theorem own_lt' {α:Type}{f:α→List Value}{size:Nat}{e:TypeId}{w:World}{B:Nat}{v:Value}{l:List α}(h:OwnOf f size e w B v l){k:Nat}(hk:v.ownBlock=some k):k<w.heap.size:=(World.ownsRow.lt h k hk).2
theorem LrW.grew {u':World}{kv':Value}{it:Itm}(h:LrW w g9 kv ks u)(hit:Fp (fun x=>g9+1≤x∧kv.ownBlock≠some x) u it)(hbare:BareI it)(hg:u.grownBy u' kv.ownBlock)(hO:OwnOf icells 3 77 u' (g9+1) kv' (ks++[it]))
  (hp:∀ k,kv'.ownBlock=some k→kv.ownBlock=some k∨u.heap.size≤k):LrW w g9 kv' (ks++[it]) (u'.setCell ⟨g9,2,none⟩ kv'):=by
 have q1:=h.h1
 have hne:∀ b,b≤g9→kv.ownBlock≠some b:=fun b hb e=>by have:=h.hO.lt b e;omega
 have hst:u'.grownBy (u'.setCell ⟨g9,2,none⟩ kv') (some g9):=grown_cell 2 kv'
 have hall:∀ k,Fp (fun x=>g9+1≤x∧kv.ownBlock≠some x) u k→Fp (fun x=>g9+1≤x∧kv'.ownBlock≠some x) (u'.setCell ⟨g9,2,none⟩ kv') k:=by
  intro k hk
  refine hk.to (Nat.le_trans hg.size hst.size) (fun x hx hlt=>⟨?_,hx.1,fun e=>?_⟩)
  ·rw [hst.block x (Nat.lt_of_lt_of_le hlt hg.size) (by simp;omega),hg.block x hlt (fun e=>hx.2 e.symm)]
  ·rcases hp x e with h1|h1
   ·exact hx.2 h1
   ·omega
 have hb2:=h.hb.grown hg h.hb.size (fun k hk=>by have:=h.hO.lt k hk;omega)
 refine ⟨hb2.setCell (by show w.heap.size≤g9;omega) _,(h.hz.grown hg (hne _ (by omega))).other _ (by simp;omega) _,(h.hm.grown hg (hne _ (Nat.le_refl _))).set 2 kv',hO.grown hst (fun k hk e=>by cases hk;have:=hO.lt _ e;omega),fun k hk=>?_,h.h1⟩
 rcases List.mem_append.1 hk with hk|hk
 ·exact ⟨hall k (h.hF k hk).1,(h.hF k hk).2⟩
 ·rw [List.mem_singleton] at hk;subst hk;exact ⟨hall k hit,hbare⟩
theorem LrW.apart {u':World}{it:Itm}(h:LrW w g9 kv ks u)(hit:Fp (fun x=>u.heap.size≤x) u' it):Fp (fun x=>g9+1≤x∧kv.ownBlock≠some x) u' it:=by
 have hlt:=h.hm.lt
 exact hit.to (Nat.le_refl _) (fun x hx _=>⟨rfl,by omega,fun e=>by have:=own_lt' h.hO e;omega⟩)
end
def PSplitPost (o:Option (Pit × List UInt8))(L:Nat)(w:World)(e:Ending)(w':World):Prop :=
 match o with
 | none=>e=.returned (.tuple #[.agg #[.bool false,.slice none 0 0,.slice none 0 0],.int .i64 0,.int .i64 1])∧Below w.heap.size w w'
 | some (p,r)=>∃ it,e=.returned (.tuple #[.agg (icells it).toArray,.int .i64 ((L - r.length:Nat):Int),.int .i64 0])∧Below w.heap.size w w'∧Fp (fun x=>w.heap.size≤x) w' it∧erI it=p∧BareI it
theorem PSplitPost_none (L:Nat)(w:World):PSplitPost none L w=fun e w'=>e=.returned (.tuple #[.agg #[.bool false,.slice none 0 0,.slice none 0 0],.int .i64 0,.int .i64 1])∧Below w.heap.size w w':=rfl
theorem PSplitPost_some (p:Pit)(r:List UInt8)(L:Nat)(w:World):PSplitPost (some (p,r)) L w=fun e w'=>∃ it,e=.returned (.tuple #[.agg (icells it).toArray,.int .i64 ((L - r.length:Nat):Int),.int .i64 0])∧Below w.heap.size w w'∧Fp (fun x=>w.heap.size≤x) w' it∧erI it=p∧BareI it:=rfl
theorem psplit_none (n:Nat)(a:Option Addr)(L c:Nat)(b:List UInt8)(hL:b.length=L)(hLs:L≤16777216)(w:World)(h:Bytes w (.slice a L c) b)(hp:prdB b=none):Calls Tryz.prog 86 #[.slice a L c] w (PSplitPost (par (n+1) b) L w):=by
 rw [par_prd_none n b hp,PSplitPost_none]
 have hz:=Blk.new w 77 [.bool false,.slice none 0 0,.slice none 0 0]
 have hbel:Below w.heap.size w (w.alloc (.cells #[.bool false,.slice none 0 0,.slice none 0 0] 77)):=(Below.refl _ _).alloc (Nat.le_refl _) _
 have pr:=fun u (hu:Bytes u (.slice a L c) b)=>pread_any a L c b hL hLs u hu
 rw [hp] at pr
 have Pr:=Lib.hid pr
 clear pr hp hL
 go_enter Tryz.func86,Tryz.ntmps86
 go_wp2_with (first
  |(go_at_call 116;(with_reducible refine (Pr.out _ (h.alloc _)).mono ?_);rintro e w1 ⟨b1,rfl⟩;have hz1:=hz.kept b1;have hbel1:=Below.then hbel b1)
  |((with_reducible show wpList _ _ _ (⟨none,.store _ _ (.tmp 23),_,_,_,_⟩::_) _ _);refine wpList_storeA (o:=⟨none,_,_,_,_,_⟩) (by rfl) 77 (.tmp 2) (.tmp 23) (by rfl) w.heap.size [.bool false,.slice none 0 0,.slice none 0 0] (by rfl) (by rfl) aggItem hz1 (by rfl) (by rfl) (by intro u hu;simp at hu;rcases hu with rfl|rfl<;>rfl) hbel1 (Nat.le_refl _) ?_;intro w5 hh5 hbel5 _))
 have k0:=hh5.cell 0
 have k1:=hh5.cell 1
 have k2:=hh5.cell 2
 simp only [List.getElem?_cons_zero,List.getElem?_cons_succ] at k0 k1 k2
 exact bodyPost_ret (v:=.tuple #[.agg #[.bool false,.slice none 0 0,.slice none 0 0],.int .i64 0,.int .i64 1]) (by simp [results,Tryz.results86,go_sem,k0,k1,k2]) rfl ⟨rfl,hbel5⟩
theorem psplit_text (n:Nat)(a:Option Addr)(L c:Nat)(b:List UInt8)(hL:b.length=L)(hLs:L≤16777216)(w:World)(h:Bytes w (.slice a L c) b)(f t:Nat)(hp:prdB b=some (f,t,false)):Calls Tryz.prog 86 #[.slice a L c] w (PSplitPost (par (n+1) b) L w):=by
 obtain ⟨hft,htL,_,hpar⟩:=par_prd_some n b f t false hp
 rw [hpar,if_neg (by simp),PSplitPost_some]
 have hrl:L - (b.drop t).length=t:=by rw [List.length_drop];omega
 rw [hrl]
 have hz:=Blk.new w 77 [.bool false,.slice none 0 0,.slice none 0 0]
 have hbel:Below w.heap.size w (w.alloc (.cells #[.bool false,.slice none 0 0,.slice none 0 0] 77)):=(Below.refl _ _).alloc (Nat.le_refl _) _
 have hszw:w.heap.size<(w.alloc (.cells #[.bool false,.slice none 0 0,.slice none 0 0] 77)).heap.size:=by simp
 have pr:=fun u (hu:Bytes u (.slice a L c) b)=>pread_any a L c b hL hLs u hu
 rw [hp] at pr
 have h':=h
 rw [←hL] at h'
 obtain ⟨a1,c1,q1,r1⟩:=h'.between elU8 f t hft htL (f:Int) (t:Int) rfl rfl
 rw [hL] at q1 htL
 obtain ⟨k,hk⟩:∃ k,k=t - f:=⟨_,rfl⟩
 rw [←hk] at q1 r1
 have hlk:((b.take t).drop f).length=k:=by rw [List.length_drop,List.length_take];omega
 obtain ⟨l,hl⟩:∃ l,l=(b.take t).drop f:=⟨_,rfl⟩
 rw [←hl] at hlk r1
 rw [←hl]
 have Hlk:=Lib.hid hlk
 have Pr:=Lib.hid pr
 have hk8:k≤16777216:=by omega
 clear pr hp hL hpar hl hlk h' hk hft htL
 go_enter Tryz.func86,Tryz.ntmps86
 go_wp2_with (first
  |(go_at_call 116;(with_reducible refine (Pr.out _ (h.alloc _)).mono ?_);rintro e w1 ⟨b1,rfl⟩;have hz1:=hz.kept b1;have hbel1:=Below.then hbel b1;have hs1:=b1.size)
  |(refine wpList_appA (o:=⟨some 31,_,_,_,_,_⟩) (by rfl) (.tmp 26) (.tmp 30) 25 (by rfl) elU8 (by rfl) (OwnOf.empty b8 1 5 w1 (w.heap.size+1) (by omega)) (by rfl) ((r1.below hbel1).alloc _) (by simp;omega) (by rw [Hlk.out];simp;omega) (by rw [Hlk.out];unfold maxLen;simp;omega) ?_;intro v6 w6 o6 g6 p6;have hz6:=(hz1.alloc (.cells #[] 5)).grown g6 (by simp [Value.ownBlock];omega);have hbel6:=(hbel1.alloc (by omega) (.cells #[] 5)).grown g6 (by simp;omega) (by intro y hy;simp [Value.ownBlock] at hy;omega);obtain ⟨a6,c6,rfl,_⟩:=o6.form' k (by rw [List.nil_append];exact Hlk.out))
  |(go_at_call 55;(with_reducible refine (ptext_any _ _ _ _).mono ?_);rintro e w7 ⟨rfl,b7⟩;have hz7:=hz6.kept b7;have o7:=o6.kept b7;have hbel7:=Below.then hbel6 b7)
  |((with_reducible show wpList _ _ _ (⟨none,.store _ _ (.tmp 32),_,_,_,_⟩::_) _ _);refine wpList_storeA (o:=⟨none,_,_,_,_,_⟩) (by rfl) 77 (.tmp 2) (.tmp 32) (by rfl) w.heap.size [.bool false,.slice a6 k c6,.slice none 0 0] (by rfl) (by rfl) aggItem hz7 (by rfl) (by rfl) (by intro u hu;simp at hu;rcases hu with rfl|rfl|rfl<;>rfl) hbel7 (Nat.le_refl _) ?_;intro w8 hh8 hbel8 g8;have o8:=o7.grown g8 (fun j hj e=>by cases hj;have:=o7.lt _ e;omega)))
 have k0:=hh8.cell 0
 have k1:=hh8.cell 1
 have k2:=hh8.cell 2
 simp only [List.getElem?_cons_zero,List.getElem?_cons_succ] at k0 k1 k2
 exact bodyPost_ret (v:=.tuple #[.agg #[.bool false,.slice a6 k c6,.slice none 0 0],.int .i64 (t:Int),.int .i64 0]) (by simp [results,Tryz.results86,go_sem,k0,k1,k2]) rfl ⟨.mk false (.slice a6 k c6) l (.slice none 0 0) [],rfl,hbel8,Fp.txt o8 (fun _ h=>by omega),by rw [erI_mk];rfl,.txt _ _ _⟩
theorem psplit_list (n:Nat)(ih:∀ (b:List UInt8),b.length≤n→b.length≤16777216→∀ (a:Option Addr) (L c:Nat) (w:World),b.length=L→Bytes w (.slice a L c) b→Calls Tryz.prog 86 #[.slice a L c] w (PSplitPost (par n b) L w))
  (a:Option Addr) (L c:Nat) (b:List UInt8) (hL:b.length=L) (hn:L≤n+1) (hLs:L≤16777216) (w:World) (h:Bytes w (.slice a L c) b) (f t:Nat) (hp:prdB b=some (f,t,true)):Calls Tryz.prog 86 #[.slice a L c] w (PSplitPost (par (n+1) b) L w):=by
 obtain ⟨hft,htL,hf1,hpar⟩:=par_prd_some n b f t true hp
 have hf1:=hf1 rfl
 rw [hpar,if_pos rfl]
 have hrl:L - (b.drop t).length=t:=by rw [List.length_drop];omega
 obtain ⟨d,hd⟩:∃ d,d=b.drop t:=⟨_,rfl⟩
 rw [←hd] at hrl
 rw [←hd]
 obtain ⟨PL,hPL⟩:∃ PL,PL=parL (par n) (t - f) ((b.take t).drop f):=⟨_,rfl⟩
 rw [←hPL]
 have hz:=Blk.new w 77 [.bool false,.slice none 0 0,.slice none 0 0]
 have hbel:Below w.heap.size w (w.alloc (.cells #[.bool false,.slice none 0 0,.slice none 0 0] 77)):=(Below.refl _ _).alloc (Nat.le_refl _) _
 have hszw:w.heap.size<(w.alloc (.cells #[.bool false,.slice none 0 0,.slice none 0 0] 77)).heap.size:=by simp
 have pr:=fun u (hu:Bytes u (.slice a L c) b)=>pread_any a L c b hL hLs u hu
 rw [hp] at pr
 have h':=h
 rw [←hL] at h'
 have hsub:∀ i,i≤t→∃ a' c',(∀ k k' w',(Instr.slice 25 (.slice a L c) (some (.int k (i:Int))) (some (.int k' (t:Int))) none).run Tryz.prog w'=.ok (.slice a' (t - i) c') w')∧Bytes w (.slice a' (t - i) c') ((b.take t).drop i):=by
  intro i hi
  obtain ⟨a1,c1,q1,r1⟩:=h'.between elU8 i t hi htL (i:Int) (t:Int) rfl rfl
  rw [hL] at q1
  exact ⟨a1,c1,q1,r1⟩
 have hlen:∀ i,i≤t→((b.take t).drop i).length=t - i:=fun i hi=>by rw [List.length_drop,List.length_take];omega
 have HPL:=Lib.hid hPL
 have Pr:=Lib.hid pr
 have Hsub:=Lib.hid hsub
 have Hlen:=Lib.hid hlen
 have Ih:=Lib.hid ih
 have Hrl:=Lib.hid hrl
 have htn:t≤n+1:=by omega
 have ht8:t≤16777216:=by omega
 clear pr hp hL hpar h' hd hPL hsub hlen ih hrl htL
 go_enter Tryz.func86,Tryz.ntmps86
 go_wp2_with (first
  |(go_at_call 116;(with_reducible refine (Pr.out _ (h.alloc _)).mono ?_);rintro e w1 ⟨b1,rfl⟩;have hz1:=hz.kept b1;have hbel1:=Below.then hbel b1;have hs1:=b1.size)
  |(go_at_call 52;refine (plist_any none 0 0 _).mono ?_;rintro e w2 ⟨rfl,b2⟩;have hz2:=hz1.kept b2;have hbel2:=Below.then hbel1 b2;have hs2:=b2.size)
  |((with_reducible show wpList _ _ _ (⟨none,.store _ _ (.tmp 34),_,_,_,_⟩::_) _ _);refine wpList_storeA (o:=⟨none,_,_,_,_,_⟩) (by rfl) 77 (.tmp 9) (.tmp 34) (by rfl) w2.heap.size [.bool true,.slice none 0 0,.slice none 0 0] (by rfl) (by rfl) aggItem (Blk.new w2 77 [.bool false,.slice none 0 0,.slice none 0 0]) (by rfl) (by rfl) (by intro u hu;simp at hu;rcases hu with rfl|rfl<;>rfl) (hbel2.alloc (by omega) (.cells #[.bool false,.slice none 0 0,.slice none 0 0] 77)) (by omega) ?_;intro w3 hm3 hbel3 g3;have hz3:=(hz2.alloc (.cells #[.bool false,.slice none 0 0,.slice none 0 0] 77)).grown g3 (by simp<;>omega)))
 have F3:LrW w w2.heap.size (.slice none 0 0) [] w3:=⟨hbel3,hz3,hm3,OwnOf.nil icells 3 _ _ _,by simp,by omega⟩
 obtain ⟨g9,hg9⟩:∃ g9,g9=w2.heap.size:=⟨_,rfl⟩
 rw [←hg9] at F3
 rw [←hg9]
 clear hz hbel hszw b1 hz1 hbel1 hs1 b2 hz2 hbel2 hs2 hm3 hbel3 g3 hz3 hg9
 try simp only [Act.put]
 go_loopw [10] (fun i wr=>∃ (at' m:Nat) (kv:Value) (ks:List Itm),i=.int .i64 (at':Int)∧f≤at'∧at'≤t∧LrW w g9 kv ks wr∧t - at'≤m∧ks.length+(t - at')≤t - f∧PL=(parL (par n) m ((b.take t).drop at')).map (fun ps=>ks.map erI++ps)) (fun i _=>t - (intOf i).toNat)
 case atStart=>exact ⟨f,t - f,.slice none 0 0,[],rfl,Nat.le_refl _,hft,F3,Nat.le_refl _,by simp,by rw [HPL.out];cases parL (par n) (t - f) ((b.take t).drop f)<;>simp⟩
 case round =>
  clear F3
  obtain ⟨i,m,kv,ks,rfl,hfi,hit,F,hm,hks,hrel2⟩:=hrel
  have HRel:=Lib.hid hrel2
  clear hrel2
  obtain ⟨ka,kc,rfl,_⟩:=F.hO.form
  by_cases hlt:i<t
  ·have hlti:(i:Int)<(t:Int):=by omega
   obtain ⟨a1,c1,q1,r1⟩:=Hsub.out i hit
   have hrem:=Hlen.out i hit
   obtain ⟨rem,hremd⟩:∃ rem,rem=(b.take t).drop i:=⟨_,rfl⟩
   rw [←hremd] at r1 hrem
   have hrel3:=HRel.out
   rw [←hremd] at hrel3
   obtain ⟨L6,hL6⟩:∃ L6,L6=t - i:=⟨_,rfl⟩
   rw [←hL6] at q1 r1 hrem hm hks
   have hrne:rem≠[]:=fun e=>by rw [e] at hrem;simp at hrem;omega
   obtain ⟨m',rfl⟩:∃ m',m=m'+1:=⟨m - 1,by omega⟩
   have hc:=fun (u:World) (hu:Bytes u (.slice a1 L6 c1) rem)=>Ih.out rem (by omega) (by omega) a1 L6 c1 u hrem hu
   have r1':=r1.below F.hb
   cases hpar:par n rem with
   | none =>
    have hPL2:PL=none:=by rw [hrel3,parL_none hrne hpar];rfl
    subst hPL2
    simp only [hpar,PSplitPost_none] at hc
    have Hc:=Lib.hid hc
    clear hc hpar hrne hrel3 hremd hrem hL6
    go_wp2_with (first
     |(go_at_call 86;(with_reducible refine (Hc.out _ r1').mono ?_);rintro e w4 ⟨rfl,b4⟩;have F4:=F.kept b4)
     |((with_reducible show wpList _ _ _ (⟨none,.store _ _ (.tmp 45),_,_,_,_⟩::_) _ _);refine wpList_storeA (o:=⟨none,_,_,_,_,_⟩) (by rfl) 77 (.tmp 11) (.tmp 45) (by rfl) w4.heap.size [.bool false,.slice none 0 0,.slice none 0 0] (by rfl) (by rfl) aggItem (Blk.new w4 77 [.bool false,.slice none 0 0,.slice none 0 0]) (by rfl) (by rfl) (by intro u hu;simp at hu;rcases hu with rfl|rfl<;>rfl) (((Below.refl w4.heap.size w4).alloc (Nat.le_refl _) (.cells #[.bool false,.slice none 0 0,.slice none 0 0] 77))) (Nat.le_refl _) ?_;intro w5 h11 b5 g5;have F5:=F4.kept b5)
     |((with_reducible show wpList _ _ _ (⟨none,.store _ _ (.tmp 50),_,_,_,_⟩::_) _ _);refine wpList_storeA (o:=⟨none,_,_,_,_,_⟩) (by rfl) 77 (.tmp 2) (.tmp 50) (by rfl) w.heap.size [.bool false,.slice none 0 0,.slice none 0 0] (by rfl) (by rfl) aggItem F5.hz (by rfl) (by rfl) (by intro u hu;simp at hu;rcases hu with rfl|rfl<;>rfl) F5.hb (Nat.le_refl _) ?_;intro w6 hh6 hbel6 _))
    have k0:=hh6.cell 0
    have k1:=hh6.cell 1
    have k2:=hh6.cell 2
    simp only [List.getElem?_cons_zero,List.getElem?_cons_succ] at k0 k1 k2
    exact bodyPost_ret (v:=.tuple #[.agg #[.bool false,.slice none 0 0,.slice none 0 0],.int .i64 0,.int .i64 1]) (by simp [results,Tryz.results86,go_sem,k0,k1,k2]) rfl ⟨rfl,hbel6⟩
   | some pr =>
    obtain ⟨p,r2⟩:=pr
    obtain ⟨j,hj,hj1,hjl⟩:=par_suf n rem p r2 hpar
    have hj2:L6 - r2.length=j:=by rw [hj,List.length_drop];omega
    have hPL2:PL=(parL (par n) m' ((b.take t).drop (i+j))).map (fun ps=>(ks.map erI++[p])++ps):=by
     rw [hrel3,parL_some hrne hpar,hj,hremd,List.drop_drop]
     cases parL (par n) m' (List.drop (i+j) (List.take t b))<;>simp
    simp only [hpar,PSplitPost_some,hj2] at hc
    have Hc:=Lib.hid hc
    have HPL2:=Lib.hid hPL2
    have hjL:j≤L6:=by omega
    have hst:IntKind.i64.wrap ((i:Int)+(j:Int))=((i+j:Nat):Int):=by rw [show (i:Int)+(j:Int)=((i+j:Nat):Int) from by omega];exact IntWalk.i64_in _ (by omega)
    obtain ⟨i2,hi2⟩:∃ i2,i2=i+j:=⟨_,rfl⟩
    rw [←hi2] at hst
    have hst':(i:Int)+(j:Int)=(i2:Int):=by omega
    obtain ⟨kn,hkn⟩:∃ kn,kn=ks.length:=⟨_,rfl⟩
    rw [←hkn] at F hks
    have Hkn:=Lib.hid hkn.symm
    have Hi2:=Lib.hid hi2
    have HL6:=Lib.hid hL6
    clear hc hpar hrne hrel3 hremd hrem hPL2 hj hj2 hkn hi2 hL6 HRel hjl
    go_wp2_with (first
     |(go_at_call 86;(with_reducible refine (Hc.out _ r1').mono ?_);rintro e w4 ⟨it,rfl,b4,Fp4,he4,hbare4⟩;have F4:=F.kept b4;have Fp4':=F.apart Fp4;obtain ⟨l2,tv2,t2,kv2,ks2⟩:=it;obtain ⟨ta2,tc2,rfl,_,_⟩:=Fp4'.is.inv.1.form;obtain ⟨ka2,kc2,rfl,_,_⟩:=Fp4'.is.inv.2.1.form;obtain ⟨tn2,htn2⟩:∃ tn2,tn2=t2.length:=⟨_,rfl⟩;obtain ⟨kn2,hkn2⟩:∃ kn2,kn2=ks2.length:=⟨_,rfl⟩;rw [←htn2,←hkn2] at Fp4' he4 hbare4;rw [←htn2,←hkn2];clear htn2 hkn2 Fp4;simp only [icells])
     |((with_reducible show wpList _ _ _ (⟨none,.store _ _ (.tmp 45),_,_,_,_⟩::_) _ _);refine wpList_storeA (o:=⟨none,_,_,_,_,_⟩) (by rfl) 77 (.tmp 11) (.tmp 45) (by rfl) w4.heap.size [.bool l2,.slice ta2 tn2 tc2,.slice ka2 kn2 kc2] (by rfl) (by rfl) aggItem (Blk.new w4 77 [.bool false,.slice none 0 0,.slice none 0 0]) (by rfl) (by rfl) (by intro u hu;simp at hu;rcases hu with rfl|rfl|rfl<;>rfl) (((Below.refl w4.heap.size w4).alloc (Nat.le_refl _) (.cells #[.bool false,.slice none 0 0,.slice none 0 0] 77))) (Nat.le_refl _) ?_;intro w5 h11 b5 g5;have F5:=F4.kept b5;have Fp5:=Fp4'.to b5.size (fun x hx hl=>⟨b5.block x hl,hx⟩);have hk52:w5.cell? ⟨g9,2,none⟩=some (.slice ka kn kc):=F5.hm.cell 2)
     |(refine wpList_loadA (o:=⟨some 53,_,_,_,_,_⟩) (by rfl) 77 (.tmp 11) (by rfl) w4.heap.size (by rfl) aggItem h11 (by rfl) ?_)
     |(refine wpList_buildW (o:=⟨some 54,_,_,_,_,_⟩) (by rfl) 75 1 [(0,.tmp 53)] (by rfl) elItem [.mk l2 (.slice ta2 tn2 tc2) t2 (.slice ka2 kn2 kc2) ks2] [.agg #[.bool l2,.slice ta2 tn2 tc2,.slice ka2 kn2 kc2]] (by rfl) (by rfl) (by rfl) (by omega) (by omega) ?_;intro w6 _ hr6 b6;have F6:=F5.kept b6;have Fp6:=Fp5.to b6.size (fun x hx hl=>⟨b6.block x hl,hx⟩))
     |(refine wpList_appB (o:=⟨some 55,_,_,_,_,_⟩) (by rfl) (.tmp 52) (.tmp 54) 75 (by rfl) elItem (by intro u hu;simp [icells] at hu;rcases hu with rfl|rfl|rfl<;>rfl) (by rfl) F6.hO (by rfl) hr6 F6.hm.lt (by rw [Hkn.out];simp;omega) (by rw [Hkn.out];unfold maxLen;simp;omega) ?_;intro v7 w7 hO7 gg7 pp7;obtain ⟨ka7,kc7,rfl,_⟩:=hO7.form' (kn+1) (by rw [List.length_append,Hkn.out];rfl);have F7:=F6.grew Fp6 hbare4 gg7 hO7 pp7;have hne7:(Value.slice ka kn kc).ownBlock≠some g9:=fun e=>(by have:=F6.hO.lt g9 e;omega);obtain ⟨y7,hy7⟩:=(F6.hm.grown gg7 hne7).has 2 (by simp);have hf7:=(F6.hm.grown gg7 hne7).free 2))
    go_roundw
    case rel=>exact ⟨i2,m',_,_,rfl,by have:=Hi2.out;omega,by have:=Hi2.out;have:=HL6.out;omega,F7,by have:=Hi2.out;have:=HL6.out;omega,by have:=Hi2.out;have:=HL6.out;rw [List.length_append,Hkn.out];simp;omega,by rw [HPL2.out,List.map_append,List.map_singleton,he4,Hi2.out]⟩
    case measure=>have:=Hi2.out;simp [intOf];omega
  ·obtain rfl:i=t:=by omega
   have hPL2:PL=some (ks.map erI):=by
    rw [HRel.out,show (b.take i).drop i=[] from List.eq_nil_of_length_eq_zero (by have:=Hlen.out i hit;omega),parL_nil];simp
   subst hPL2
   go_wp2_with (first
    |(refine wpList_loadA (o:=⟨some 60,_,_,_,_,_⟩) (by rfl) 77 (.tmp 9) (by rfl) g9 (by rfl) aggItem F.hm (by rfl) ?_)
    |((with_reducible show wpList _ _ _ (⟨none,.store _ _ (.tmp 60),_,_,_,_⟩::_) _ _);refine wpList_storeA (o:=⟨none,_,_,_,_,_⟩) (by rfl) 77 (.tmp 2) (.tmp 60) (by rfl) w.heap.size [.bool true,.slice none 0 0,.slice ka ks.length kc] (by rfl) (by rfl) aggItem F.hz (by rfl) (by rfl) (by intro u hu;simp at hu;rcases hu with rfl|rfl|rfl<;>rfl) F.hb (Nat.le_refl _) ?_;intro w9 hh9 hbel9 hg9))
   have q1:=F.h1
   have o9:=F.hO.grown hg9 (fun y hy e=>by cases hy;have:=F.hO.lt _ e;omega)
   have k0:=hh9.cell 0
   have k1:=hh9.cell 1
   have k2:=hh9.cell 2
   simp only [List.getElem?_cons_zero,List.getElem?_cons_succ] at k0 k1 k2
   refine bodyPost_ret (v:=.tuple #[.agg #[.bool true,.slice none 0 0,.slice ka ks.length kc],.int .i64 (i:Int),.int .i64 0]) (by simp [results,Tryz.results86,go_sem,k0,k1,k2]) rfl ⟨.mk true (.slice none 0 0) [] (.slice ka ks.length kc) ks,?_,hbel9,Fp.lst o9 (fun k hk=>(F.hF k hk).1.to hg9.size (fun y hy hl=>⟨hg9.block y hl (by simp;omega),by omega⟩)) (fun y hy=>by omega),by rw [erI_mk];rfl,.lst _ _ _ (fun k hk=>(F.hF k hk).2)⟩
   rw [Hrl.out];rfl
theorem psplit_any:∀ (n:Nat)(b:List UInt8),b.length≤n→b.length≤16777216→∀ (a:Option Addr) (L c:Nat) (w:World),b.length=L→Bytes w (.slice a L c) b→Calls Tryz.prog 86 #[.slice a L c] w (PSplitPost (par n b) L w)
 | 0,[],_,h1,a,L,c,w,hL,h=>psplit_none 0 a L c [] hL (by omega) w h rfl
 | 0,x::r,h0,_,_,_,_,_,_,_=>by simp at h0
 | n+1,b,h0,h1,a,L,c,w,hL,h=>by
  cases hp:prdB b with
  | none=>exact psplit_none n a L c b hL (by omega) w h hp
  | some q =>
   obtain ⟨f,t,l⟩:=q
   cases l with
   | false=>exact psplit_text n a L c b hL (by omega) w h f t hp
   | true=>exact psplit_list n (psplit_any n) a L c b hL (by omega) (by omega) w h f t hp
end Go.Proofs.YtcgpjceopnfahaaGreat
