/- The reference's phead. | The reference's PEncode. | The reference's PEncode of lists; PEncode. | pack.Text, pack.List and the reference's; lists of items of the -/
import Derived.Test.YtbdmkfjgnjfjbaaGreatLazyServesK21
import Derived.Test.YtbdmkfjgnjfjbaaGreatLazyServesK15
set_option linter.unusedSimpArgs false
set_option linter.unusedVariables false
set_option maxHeartbeats 4000000
set_option maxRecDepth 100000
namespace Go.Proofs.YtbdmkfjgnjfjbaaGreat
open Go.RowKit
def baseOf (b:Bool):Nat:=if b=true then 192 else 128
theorem Q4a (n:Nat)(b:Bool)(hn:n≤4611686018427387904)(w:World) :
  Calls Tryz.prog 88 #[.int .i64 (n:Int),.bool b] w fun e w'=>e=.returned (str (headB (baseOf b) n))∧Below w.heap.size w w':=by
 by_cases h48:n<48
 ·have hni:(n:Int)<48:=by omega
  have hH:headB (baseOf b) n=[UInt8.ofNat (baseOf b+n)]:=by unfold headB;rw [if_pos h48]
  have hx:u8v (UInt8.ofNat (baseOf b+n))=.int .u8 ((baseOf b:Int)+(n:Int)):=by
   unfold u8v baseOf
   rw [UInt8.toNat_ofNat',Nat.mod_eq_of_lt (by split<;>omega)];simp
  obtain ⟨X,hX⟩:∃ X,X=UInt8.ofNat (baseOf b+n):=⟨_,rfl⟩
  obtain ⟨xi,hxi⟩:∃ xi:Int,xi=(baseOf b:Int)+(n:Int):=⟨_,rfl⟩
  rw [←hX] at hH hx
  rw [←hxi] at hx
  have hrow:Bytes (w.alloc (.cells #[.int .u8 xi] 5)) (.slice (some ⟨w.heap.size,0,none⟩) 1 1) [X] :=
   OwnOf.row (OwnOf.made b8 1 5 w w.heap.size [X] #[.int .u8 xi] 1 (by rw [Q13,List.map_cons,hx];rfl) rfl rfl (Nat.le_refl _) (by unfold maxLen;omega))
  have hc1:=Q0h (P:=Tryz.prog) (src:=25) (dst:=9) elU8.ht (by kernel_rfl) (by kernel_rfl) hrow
  have hbel1:Below w.heap.size w (w.alloc (.cells #[.int .u8 xi] 5)):=Qba _ _
  have HH:=Qhd hH
  clear hH hx hX hrow
  cases b with
  | true =>
   have w1:IntKind.i64.wrap (192+(n:Int))=192+(n:Int):=IntWalk.i64_in _ (by omega)
   have w2:IntKind.u8.wrap (192+(n:Int))=xi:=by rw [hxi];exact IntWalk.u8_in _ (by omega)
   clear hxi
   go_enter Tryz.func88,Tryz.ntmps88
   go_wp2_with (refine Q1o (o:=⟨some 14,_,_,_,_,_⟩) (by rfl) (.tmp 13) 25 (by rfl) elU8 (.int .u8 xi) [.int .u8 xi] (by rfl) (by rfl) rfl (by omega) ?_)
   go_ret
   exact ⟨by rw [HH.out];rfl,hbel1⟩
  | false =>
   have w1:IntKind.i64.wrap (128+(n:Int))=128+(n:Int):=IntWalk.i64_in _ (by omega)
   have w2:IntKind.u8.wrap (128+(n:Int))=xi:=by rw [hxi];exact IntWalk.u8_in _ (by omega)
   clear hxi
   go_enter Tryz.func88,Tryz.ntmps88
   go_wp2_with (refine Q1o (o:=⟨some 14,_,_,_,_,_⟩) (by rfl) (.tmp 13) 25 (by rfl) elU8 (.int .u8 xi) [.int .u8 xi] (by rfl) (by rfl) rfl (by omega) ?_)
   go_ret
   exact ⟨by rw [HH.out];rfl,hbel1⟩
 ·have hni:¬ (n:Int)<48:=by omega
  have hL8:=numB_8 n (by omega)
  have hL1:=Qd2 n (by omega) (by unfold W256;omega)
  have hH:headB (baseOf b) n=[UInt8.ofNat (baseOf b+48+((numB n).length - 1))]++numB n:=by unfold headB;rw [if_neg h48];rfl
  have hx:u8v (UInt8.ofNat (baseOf b+48+((numB n).length - 1)))=.int .u8 ((baseOf b:Int)+47+((numB n).length:Int)):=by
   have hb:baseOf b≤192:=by unfold baseOf;split<;>omega
   unfold u8v;rw [UInt8.toNat_ofNat',Nat.mod_eq_of_lt (by omega)];congr 1;omega
  have cn:=fun w=>Qjn n w
  have ci:=fun w=>Qc7 n (by omega) w
  obtain ⟨B,hB⟩:∃ B,B=numB n:=⟨_,rfl⟩
  rw [←hB] at hL8 hL1 hH hx
  simp only [←hB] at cn
  obtain ⟨L,hL⟩:∃ L,L=B.length:=⟨_,rfl⟩
  rw [←hL] at hL8 hL1 hH hx
  obtain ⟨X,hX⟩:∃ X,X=UInt8.ofNat (baseOf b+48+(L - 1)):=⟨_,rfl⟩
  rw [←hX] at hH hx
  obtain ⟨xi,hxi⟩:∃ xi:Int,xi=(baseOf b:Int)+47+(L:Int):=⟨_,rfl⟩
  rw [←hxi] at hx
  have hBl:B.length≤8:=by omega
  have eadd:Ending.returned (.string ((⟨#[X]⟩:ByteArray)++⟨B.toArray⟩))=.returned (str ([X]++B)):=congrArg (fun x=>Ending.returned (Value.string x)) (ByteArray.mk_append_mk [X] B)
  have Eadd:=Qhd eadd
  clear eadd
  have crow:∀ w2:World,Bytes (w2.alloc (.cells #[.int .u8 xi] 5)) (.slice (some ⟨w2.heap.size,0,none⟩) 1 1) [X]:=fun w2 =>
   OwnOf.row (OwnOf.made b8 1 5 w2 w2.heap.size [X] #[.int .u8 xi] 1 (by rw [Q13,List.map_cons,hx];rfl) rfl rfl (Nat.le_refl _) (by unfold maxLen;omega))
  have w0:IntKind.u64.wrap (n:Int)=(n:Int):=IntWalk.u64_in _ (by omega)
  have HH:=Qhd hH
  have HL:=Qhd hL
  have Cn:=Qhd cn
  have Ci:=Qhd ci
  have Crow:=Qhd crow
  clear hH hx hB hL hX cn ci crow
  cases b with
  | true =>
   have w1:IntKind.i64.wrap ((192:Int)+47)=239:=IntWalk.i64_in _ (by omega)
   have w2:IntKind.i64.wrap (239+(L:Int))=239+(L:Int):=IntWalk.i64_in _ (by omega)
   have w3:IntKind.u8.wrap (239+(L:Int))=xi:=by rw [hxi];exact IntWalk.u8_in _ (by omega)
   clear hxi
   go_enter Tryz.func88,Tryz.ntmps88
   go_wp2_with (first
    |(go_at_call 54;(with_reducible refine (Ci.out _).mono ?_);rintro e w1 ⟨rfl,b1⟩)
    |(go_at_call 53;(with_reducible refine (Cn.out _).mono ?_);rintro e w2 ⟨v,rfl,o2,b2⟩;have b12:=Below.then b1 b2;obtain ⟨a2,c2,rfl,_⟩:=o2.form' L HL.out.symm)
    |(refine Q1o (o:=⟨some 26,_,_,_,_,_⟩) (by rfl) (.tmp 25) 25 (by rfl) elU8 (.int .u8 xi) [.int .u8 xi] (by rfl) (by rfl) rfl (by omega) ?_;have b4:=b12.alloc b12.size (.cells #[.int .u8 xi] 5);have hc1:=Q0h (P:=Tryz.prog) (src:=25) (dst:=9) elU8.ht (by kernel_rfl) (by kernel_rfl) (Crow.out w2);have hc2:=Q0h (P:=Tryz.prog) (src:=25) (dst:=9) elU8.ht (by kernel_rfl) (by kernel_rfl) (o2.alloc (.cells #[.int .u8 xi] 5))))
   go_ret
   exact ⟨by rw [HH.out];exact Eadd.out,b4⟩
  | false =>
   have w1:IntKind.i64.wrap ((128:Int)+47)=175:=IntWalk.i64_in _ (by omega)
   have w2:IntKind.i64.wrap (175+(L:Int))=175+(L:Int):=IntWalk.i64_in _ (by omega)
   have w3:IntKind.u8.wrap (175+(L:Int))=xi:=by rw [hxi];exact IntWalk.u8_in _ (by omega)
   clear hxi
   go_enter Tryz.func88,Tryz.ntmps88
   go_wp2_with (first
    |(go_at_call 54;(with_reducible refine (Ci.out _).mono ?_);rintro e w1 ⟨rfl,b1⟩)
    |(go_at_call 53;(with_reducible refine (Cn.out _).mono ?_);rintro e w2 ⟨v,rfl,o2,b2⟩;have b12:=Below.then b1 b2;obtain ⟨a2,c2,rfl,_⟩:=o2.form' L HL.out.symm)
    |(refine Q1o (o:=⟨some 26,_,_,_,_,_⟩) (by rfl) (.tmp 25) 25 (by rfl) elU8 (.int .u8 xi) [.int .u8 xi] (by rfl) (by rfl) rfl (by omega) ?_;have b4:=b12.alloc b12.size (.cells #[.int .u8 xi] 5);have hc1:=Q0h (P:=Tryz.prog) (src:=25) (dst:=9) elU8.ht (by kernel_rfl) (by kernel_rfl) (Crow.out w2);have hc2:=Q0h (P:=Tryz.prog) (src:=25) (dst:=9) elU8.ht (by kernel_rfl) (by kernel_rfl) (o2.alloc (.cells #[.int .u8 xi] 5))))
   go_ret
   exact ⟨by rw [HH.out];exact Eadd.out,b4⟩
def Q35 (x:Itm)(w:World)(e:Ending)(w':World):Prop:=∃ v,e=.returned v∧Bytes w' v (encI x)∧Below w.heap.size w w'
theorem Q4q (l m:List UInt8):Value.string ((⟨l.toArray⟩:ByteArray)++⟨m.toArray⟩)=str (l++m):=congrArg Value.string (ByteArray.mk_append_mk l m)
theorem Qgh (ta:Option Addr)(tn tc:Nat)(t:List UInt8)(htn:t.length=tn)(kv:Value)(ks:List Itm)(w:World)(h:Bytes w (.slice ta tn tc) t)(hN:tn≤1000000000000) :
  Calls Tryz.prog 56 #[.agg #[.bool false,.slice ta tn tc,kv]] w (Q35 (.mk false (.slice ta tn tc) t kv ks) w):=by
 have hbel1:Below w.heap.size w (w.alloc (.cells #[.bool false,.slice ta tn tc,kv] 77)):=Qba _ _
 have hs:=Q0h (P:=Tryz.prog) (src:=25) (dst:=9) elU8.ht (by kernel_rfl) (by kernel_rfl) (h.below hbel1)
 have hse:(⟨t.toArray⟩:ByteArray).size=tn:=htn
 by_cases h1:tn=1∧(t[0]?.getD 0).toNat<128
 ·obtain ⟨h1,h128⟩:=h1
  obtain ⟨x,rfl⟩:∃ x,t=[x]:=List.length_eq_one_iff.1 (htn.trans h1)
  subst h1
  have hx:(x.toNat:Int)<128:=by simp at h128;omega
  have hE:encI (.mk false (.slice ta 1 tc) [x] kv ks)=[x]:=by
   unfold encI textB
   rw [if_neg (by simp),if_pos (by simp at h128 ⊢;exact h128)]
  have HE:=Qhd hE
  have hx0:∀ h,(⟨#[x]⟩:ByteArray)[0]'h=x:=fun _=>rfl
  clear hE htn h128 hse
  go_enter Tryz.func56,Tryz.ntmps56
  go_wp2_with (refine Q1x (o:=⟨some 33,_,_,_,_,_⟩) (by rfl) 9 25 (.tmp 32) (by rfl) (by kernel_rfl) elU8.ht (by kernel_rfl) [x] (by rfl) (by unfold maxLen;simp) ?_;intro v2 w2 h2 b2;have hbel2:=Below.then hbel1 b2)
  go_ret
  exact ⟨_,rfl,by rw [HE.out];exact h2,hbel2⟩
 ·have hE:encI (.mk false (.slice ta tn tc) t kv ks)=headB 128 tn++t:=by
   unfold encI textB
   rw [if_neg (by simp),if_neg (by rw [htn];exact h1),htn]
  have hhl:=Q21 128 tn (by omega)
  have ch:∀ x,Calls Tryz.prog 88 #[.int .i64 (tn:Int),.bool false] x _:=fun x=>Q4a tn false (by omega) x
  change ∀ x,Calls Tryz.prog 88 #[.int .i64 (tn:Int),.bool false] x (fun e w'=>e=.returned (str (headB 128 tn))∧Below x.heap.size x w') at ch
  obtain ⟨w1,hw1⟩:∃ w1,w1=w.alloc (.cells #[.bool false,.slice ta tn tc,kv] 77):=⟨_,rfl⟩
  obtain ⟨Hd,hHd⟩:∃ Hd,Hd=headB 128 tn:=⟨_,rfl⟩
  rw [←hHd] at hE hhl
  simp only [←hHd] at ch
  have hadd:=Q4q Hd t
  have hll:(Hd++t).length≤2000000000000:=by rw [List.length_append,htn];omega
  have HE:=Qhd hE
  have Ch:=Qhd ch
  have Hadd:=Qhd hadd
  clear hE hw1 ch hHd hadd
  by_cases ht1:tn=1
  ·subst ht1
   obtain ⟨x,rfl⟩:∃ x,t=[x]:=List.length_eq_one_iff.1 htn
   have hx:¬ (x.toNat:Int)<128:=fun hx=>h1 ⟨rfl,by simp;omega⟩
   have hx0:∀ h,(⟨#[x]⟩:ByteArray)[0]'h=x:=fun _=>rfl
   clear htn h1 hse
   go_enter Tryz.func56,Tryz.ntmps56
   go_wp2_with (first
    |(go_at_call 88;refine (Ch.out _).mono ?_;rintro e w3 ⟨rfl,b3⟩;have hbel3:=Below.then hbel1 b3)
    |(refine Q1x (o:=⟨some 41,_,_,_,_,_⟩) (by rfl) 9 25 (.tmp 40) (by rfl) (by kernel_rfl) elU8.ht (by kernel_rfl) (Hd++[x]) Hadd.out (by unfold maxLen;omega) ?_;intro v2 w2 h2 b2;have hbel2:=Below.then hbel3 b2))
   go_ret
   exact ⟨_,rfl,by rw [HE.out];exact h2,hbel2⟩
  ·have hne:((tn:Int)==1)=false:=by rw [beq_eq_false_iff_ne];omega
   have htl:t.length≤1000000000000:=by omega
   clear h1 ht1
   go_enter Tryz.func56,Tryz.ntmps56
   go_wp2_with (first
    |(go_at_call 88;refine (Ch.out _).mono ?_;rintro e w3 ⟨rfl,b3⟩;have hbel3:=Below.then hbel1 b3)
    |(refine Q1x (o:=⟨some 41,_,_,_,_,_⟩) (by rfl) 9 25 (.tmp 40) (by rfl) (by kernel_rfl) elU8.ht (by kernel_rfl) (Hd++t) Hadd.out (by unfold maxLen;omega) ?_;intro v2 w2 h2 b2;have hbel2:=Below.then hbel3 b2))
   go_ret
   exact ⟨_,rfl,by rw [HE.out];exact h2,hbel2⟩
theorem Qgi (w0:World)(ta:Option Addr)(tn tc:Nat)(t:List UInt8)(hbt:Bytes w0 (.slice ta tn tc) t)(ka:Option Addr)(kn kc:Nat)(ks:List Itm)(hkn:ks.length=kn)(w:World)(hw0:w0=w)(hk:RowOf icells 3 w (.slice ka kn kc) ks)(hi:∀ k∈ks,IsItm w k)(hN:bulkL ks≤1000000000000)
  (ih:∀ k∈ks,∀ w',IsItm w' k→Calls Tryz.prog 56 #[.agg (icells k).toArray] w' (Q35 k w')) :
  Calls Tryz.prog 56 #[.agg #[.bool true,.slice ta tn tc,.slice ka kn kc]] w (Q35 (.mk true (.slice ta tn tc) t (.slice ka kn kc) ks) w):=by
 subst hw0
 have hbel1:Below w0.heap.size w0 (w0.alloc (.cells #[.bool true,.slice ta tn tc,.slice ka kn kc] 77)):=Qba _ _
 have hB1:=Blk.new w0 77 [.bool true,.slice ta tn tc,.slice ka kn kc]
 have hsc:=Q0h (P:=Tryz.prog) (src:=25) (dst:=9) elU8.ht (by kernel_rfl) (by kernel_rfl) (hbt.below hbel1)
 have hE:encI (.mk true (.slice ta tn tc) t (.slice ka kn kc) ks)=headB 192 (encL ks).length++encL ks:=by
  unfold encI
  rw [if_pos rfl]
 have hll:(encL ks).length≤10000000000000:=by have:=Q8o ks hN;omega
 have hhl:=Q21 192 (encL ks).length (by omega)
 have hnl:kn≤1000000000000:=by have:=Q5l ks;omega
 have hle:=fun k=>Qbq ks k
 have hst:=fun k hk=>Q6m ks k hk
 have hall:encL (ks.take kn)=encL ks:=by rw [←hkn,List.take_length]
 have hbk:∀ k,k∈ks→(encI k).length≤10000000000000:=fun k hk=>by
  have h1:=Q34 hk
  have:=Q30 (bulkI k) k (Nat.le_refl _) (by omega)
  omega
 have Hkn:=Qhd hkn
 have HE:=Qhd hE
 have Hle:=Qhd hle
 have Hst:=Qhd hst
 have Hi:=Qhd hi
 have Ih:=Qhd ih
 have Hall:=Qhd hall
 have Hbk:=Qhd hbk
 have Hll:=Qhd hll
 have Hhl:=Qhd hhl
 clear hkn hE hle hst hi ih hall hbk hll hhl hN
 go_enter Tryz.func56,Tryz.ntmps56
 go_wp2_with fail
 go_loopw [3,14] (fun v ix wr=>∃ k:Nat,k≤kn∧ix=.int .i64 (k:Int)∧v=.string ⟨(encL (ks.take k)).toArray⟩∧Blk 77 wr w0.heap.size [.bool true,.slice ta tn tc,.slice ka kn kc]∧Below w0.heap.size w0 wr) (fun _ ix _=>kn - (intOf ix).toNat)
 case atStart=>exact ⟨0,by omega,rfl,rfl,hB1,hbel1⟩
 case round =>
  clear hbel1 hB1 hsc
  obtain ⟨k,hk',rfl,rfl,hB,hbel⟩:=hrel
  by_cases hlt:k<kn
  ·have hki:(k:Int)<(kn:Int):=by omega
   have hkl:k<ks.length:=by rw [Hkn.out];exact hlt
   obtain ⟨b,off,rfl,hr⟩:=RowOf.range Q0p (hk.below hbel) k hkl
   have hI:IsItm wr ks[k]:=(Hi.out _ (List.getElem_mem hkl)).kept hbel
   have hc:=fun x hx=>Ih.out _ (List.getElem_mem hkl) x hx
   have hs:=Hst.out k hkl
   have hl:=Hle.out k
   have hm:=Hbk.out _ (List.getElem_mem hkl)
   obtain ⟨kid,hkid⟩:∃ x,x=ks[k]:=⟨_,rfl⟩
   rw [←hkid] at hr hI hc hs hm
   obtain ⟨S0,hS0⟩:∃ S0,S0=encL (ks.take k):=⟨_,rfl⟩
   obtain ⟨S1,hS1⟩:∃ S1,S1=encL (ks.take (k+1)):=⟨_,rfl⟩
   rw [←hS0] at hs hl
   rw [←hS1] at hs
   obtain ⟨T,hT⟩:∃ T,T=encI kid:=⟨_,rfl⟩
   unfold Q35 at hc
   rw [←hT] at hc hs hm
   obtain ⟨l2,tv2,t2,kv2,ks2⟩:=kid
   obtain ⟨ta2,tc2,rfl,_,_⟩:=hI.inv.1.form
   obtain ⟨ka2,kc2,rfl,_,_⟩:=hI.inv.2.1.form
   obtain ⟨tn2,htn2⟩:∃ tn2,tn2=t2.length:=⟨_,rfl⟩
   obtain ⟨kn2,hkn2⟩:∃ kn2,kn2=ks2.length:=⟨_,rfl⟩
   rw [←htn2,←hkn2] at hr hI hc
   change wr.rangeAt b (off+k*3) [.bool l2,.slice ta2 tn2 tc2,.slice ka2 kn2 kc2] at hr
   change ∀ x,IsItm x _→Calls Tryz.prog 56 #[.agg #[.bool l2,.slice ta2 tn2 tc2,.slice ka2 kn2 kc2]] x _ at hc
   have hbs:=hbel.size
   have hbel2:Below w0.heap.size w0 (wr.alloc (.cells #[.bool l2,.slice ta2 tn2 tc2,.slice ka2 kn2 kc2] 77)):=hbel.alloc hbs _
   have hI2:=hI.kept ((Below.refl wr.heap.size wr).alloc (Nat.le_refl _) (.cells #[.bool l2,.slice ta2 tn2 tc2,.slice ka2 kn2 kc2] 77))
   have hB2:=hB.alloc (.cells #[.bool l2,.slice ta2 tn2 tc2,.slice ka2 kn2 kc2] 77)
   have hbb:S0.length+T.length≤30000000000000:=by have:=Hll.out;omega
   have hadd:=Q4q S0 T
   rw [←hs,hS1] at hadd
   have Hadd:=Qhd hadd
   have Hc:=Qhd hc
   clear hs hc hadd hS1 hT hkid hI hl hm htn2 hkn2
   rw [←hS0]
   clear hS0
   go_wp2_with (first
    |(refine wpList_load_mid (op:=⟨some 17,_,_,_,_,_⟩) (by rfl) 77 (.tmp 16) (by rfl) b (off+k*3) (by rfl) [.bool l2,.slice ta2 tn2 tc2,.slice ka2 kn2 kc2] _ hr Tryz.underlying77 rfl (by kernel_rfl) ?_)
    |(go_at_call 56;(with_reducible refine (Hc.out _ hI2).mono ?_);rintro e w3 ⟨v3,rfl,o3,b3⟩;have hbel3:=Below.then hbel2 b3;have hB3:=hB2.kept b3;have hsc:=Q0h (P:=Tryz.prog) (src:=25) (dst:=9) elU8.ht (by kernel_rfl) (by kernel_rfl) o3))
   go_roundw
   case rel=>exact ⟨k+1,by omega,by go_num,Hadd.out,hB3,hbel3⟩
   case measure=>simp [intOf];omega
  ·obtain rfl:k=kn:=by omega
   rw [Hall.out]
   have hN2:(encL ks).length≤10000000000000:=by have:=Hll.out;omega
   obtain ⟨S,hS⟩:∃ S,S=encL ks:=⟨_,rfl⟩
   have hhl:=Hhl.out
   have hE:=HE.out
   rw [←hS] at hhl hE hN2
   rw [←hS]
   obtain ⟨sn,hsn⟩:∃ sn,sn=S.length:=⟨_,rfl⟩
   rw [←hsn] at hhl hE
   have ch:∀ x,Calls Tryz.prog 88 #[.int .i64 ((S.length:Nat):Int),.bool true] x _:=fun x=>Q4a S.length true (by omega) x
   change ∀ x,Calls Tryz.prog 88 #[.int .i64 ((S.length:Nat):Int),.bool true] x (fun e w'=>e=.returned (str (headB 192 S.length))∧Below x.heap.size x w') at ch
   rw [hsn] at hE hhl
   obtain ⟨Hd,hHd⟩:∃ Hd,Hd=headB 192 S.length:=⟨_,rfl⟩
   rw [←hHd] at hhl hE
   simp only [←hHd] at ch
   have hadd:=Q4q Hd S
   have hll:(Hd++S).length≤20000000000000:=by rw [List.length_append];omega
   have Ch:=Qhd ch
   have HE2:=Qhd hE
   have Hadd:=Qhd hadd
   clear ch hE hsn hHd hS hadd
   have hbs:=hbel.size
   have hc0:=hB.cell 0
   have hc0':wr.cell? ⟨w0.heap.size,0,none⟩=some (.bool true):=hc0
   clear hc0
   go_wp2_with (first
    |(go_at_call 88;(with_reducible refine (Ch.out _).mono ?_);rintro e w3 ⟨rfl,b3⟩;have hbel3:=Below.then hbel b3)
    |(refine Q1x (o:=⟨some 41,_,_,_,_,_⟩) (by rfl) 9 25 (.tmp 40) (by rfl) (by kernel_rfl) elU8.ht (by kernel_rfl) (Hd++S) Hadd.out (by unfold maxLen;omega) ?_;intro v2 w2 h2 b2;have hbel2:=Below.then hbel3 b2))
   go_ret
   exact ⟨_,rfl,by rw [HE2.out];exact h2,hbel2⟩
theorem Q62:∀ (n:Nat)(x:Itm)(w:World),bulkI x≤n→n≤1000000000000→IsItm w x→Calls Tryz.prog 56 #[.agg (icells x).toArray] w (Q35 x w)
 | 0,x,_,h,_,_=>by have:=Q5k x;omega
 | n+1,.mk l tv t kv ks,w,h,hn,hI=>by
  obtain ⟨h1,h2,h3⟩:=hI.inv
  obtain ⟨ta,tc,rfl,_,_⟩:=h1.form
  obtain ⟨ka,kc,rfl,_,_⟩:=h2.form
  unfold bulkI at h
  cases l with
  | false=>exact Qgh ta t.length tc t rfl _ ks w h1 (by omega)
  | true=>exact Qgi w ta t.length tc t h1 ka ks.length kc ks rfl w rfl h2 h3 (by omega) (fun k hk w' hI'=>Q62 n k w' (by have:=Q34 hk;omega) (by omega) hI')
def txt (v:Value)(t:List UInt8):Itm:=.mk false v t (.slice none 0 0) []
theorem IsItm.txt {w:World}{v:Value}{t:List UInt8}(h:Bytes w v t):IsItm w (txt v t):=.mk false v t _ [] h (RowOf.nil icells 3 w) (by simp)
theorem Q8x (v:Value)(t:List UInt8):encI (txt v t)=textB t:=by unfold txt encI;rw [if_neg (by simp)]
theorem Q33 (v:Value)(t:List UInt8):bulkI (txt v t)=1+t.length:=by unfold txt bulkI bulkL;omega
def lst (kv:Value)(ks:List Itm):Itm:=.mk true (.slice none 0 0) [] kv ks
theorem IsItm.lst {w:World}{kv:Value}{ks:List Itm}(h:RowOf icells 3 w kv ks)(hi:∀ k∈ks,IsItm w k):IsItm w (lst kv ks):=.mk true _ [] kv ks (RowOf.nil b8 1 w) h hi
theorem Qkg (kv:Value)(ks:List Itm):encI (lst kv ks)=headB 192 (encL ks).length++encL ks:=by unfold lst encI;rw [if_pos rfl]
theorem Q2m (kv:Value)(ks:List Itm):bulkI (lst kv ks)=1+bulkL ks:=by unfold lst bulkI;simp
def lsB (ts:List (List UInt8)):List UInt8:=headB 192 (ts.flatMap textB).length++ts.flatMap textB
def txts (ps:List (Value × List UInt8)):List Itm:=ps.map fun p=>txt p.1 p.2
theorem Qi4 (ps:List (Value × List UInt8)):encL (txts ps)=(ps.map (·.2)).flatMap textB:=by
 induction ps with
 | nil=>simp [txts,encL]
 | cons p ps ih =>
  have e:txts (p::ps)=txt p.1 p.2::txts ps:=rfl
  rw [e,encL,Q8x,ih];simp
theorem Q19 (kv:Value)(ps:List (Value × List UInt8)):encI (lst kv (txts ps))=lsB (ps.map (·.2)):=by
 rw [Qkg,Qi4];rfl
theorem Q1w (ps:List (Value × List UInt8)):bulkL (txts ps)=(ps.map fun p=>1+p.2.length).sum:=by
 induction ps with
 | nil=>simp [txts,bulkL]
 | cons p ps ih =>
  have e:txts (p::ps)=txt p.1 p.2::txts ps:=rfl
  rw [e,bulkL,Q33,ih];simp
theorem Q4o {w:World}{ps:List (Value × List UInt8)}(h:∀ p∈ps,Bytes w p.1 p.2):∀ k∈txts ps,IsItm w k:=by
 intro k hk
 obtain ⟨p,hp,rfl⟩:=List.mem_map.1 hk
 exact IsItm.txt (h p hp)
def tagN (n:Nat)(leaf:Bool):Nat:=n % 2+2*leaf.toNat
def tagF (n:Nat)(leaf:Bool):UInt8:=UInt8.ofNat (tagN n leaf)
theorem Qfl (n:Nat)(leaf:Bool):tagN n leaf≤3:=by unfold tagN;cases leaf <;> simp <;> omega
theorem Q82 (n:Nat)(leaf:Bool):(tagF n leaf).toNat=tagN n leaf:=by
 have:=Qfl n leaf
 unfold tagF;rw [UInt8.toNat_ofNat'];omega
def tagH (n:Nat)(leaf:Bool):List UInt8:=if n % 2=1 then [tagF n leaf] else [tagF n leaf,0]
def tagL (p:List UInt8)(leaf:Bool):List UInt8:=tagH p.length leaf++p
theorem Qj3 {n:Nat}{leaf:Bool}(h:n % 2=1):tagH n leaf=[tagF n leaf]:=by unfold tagH;rw [if_pos h]
theorem Qfm {n:Nat}{leaf:Bool}(h:¬ n % 2=1):tagH n leaf=[tagF n leaf,0]:=by unfold tagH;rw [if_neg h]
theorem Q9e (a b:List UInt8):wrongB (a++b)=(wrongB a || wrongB b):=by unfold wrongB;rw [List.any_append]
theorem Qdz (n:Nat)(leaf:Bool):wrongB (tagH n leaf)=false:=by
 have h:=Qfl n leaf
 have h2:=Q82 n leaf
 unfold tagH wrongB
 split<;>simp<;>omega
theorem Q81 (p:List UInt8)(leaf:Bool):joinOk (tagL p leaf)=!wrongB p:=by
 unfold joinOk tagL
 rw [Q9e,Qdz,Bool.false_or]
 have:(tagH p.length leaf++p).length % 2=0:=by
  unfold tagH
  split<;>simp<;>omega
 rw [this];rfl
theorem Qj2 (p:List UInt8)(leaf:Bool):(tagL p leaf).length≤p.length+2:=by
 unfold tagL tagH
 split<;>simp<;>omega
theorem tag_no {p:List UInt8}{leaf:Bool}(h:wrongB p=true):joinE (tagL p leaf)=1∧joinR (tagL p leaf)=[]:=Q4w (by rw [Q81,h];rfl)
theorem Qcg {p:List UInt8}{leaf:Bool}(h:p.length % 2=1):tagL p leaf=[if leaf then 3 else 1]++p:=by
 unfold tagL
 rw [Qj3 h]
 congr 2
 apply UInt8.toNat_inj.1
 rw [Q82];unfold tagN;rw [h];cases leaf<;>rfl
theorem Q9l {p:List UInt8}{leaf:Bool}(h:p.length % 2=0):tagL p leaf=[if leaf then 2 else 0,0]++p:=by
 unfold tagL
 rw [Qfm (by omega)]
 congr 2
 apply UInt8.toNat_inj.1
 rw [Q82];unfold tagN;rw [h];cases leaf<;>rfl
theorem join_l (a:Option Addr)(n c:Nat)(l:List UInt8)(hn:l.length=n)(w:World)(h:Bytes w (.slice a n c) l)(hl:n≤140737488355328) :
  Calls Tryz.prog 166 #[.slice a n c] w fun e w'=>∃ v,e=.returned (.tuple #[v,.int .i64 (joinE l)])∧Bytes w' v (joinR l)∧Below w.heap.size w w':=by
 subst hn
 exact (Qk3 a c l w h hl).mono fun e w' ⟨v,h1,h2,h3⟩=>⟨v,h1,h2.row,h3⟩
theorem Qh0 (a:Option Addr)(n c:Nat)(l:List UInt8)(hn:l.length=n)(w:World)(h:Bytes w (.slice a n c) l)(hl:n≤140737488355328) :
  Calls Tryz.prog 182 #[.slice a n c] w fun e w'=>∃ v,e=.returned (.tuple #[v,.int .i64 (joinE l)])∧Bytes w' v (joinR l)∧Below w.heap.size w w':=by
 subst hn
 exact (Qh1 a c l w h hl).mono fun e w' ⟨v,h1,h2,h3⟩=>⟨v,h1,h2.row,h3⟩
theorem Qap (a:Option Addr)(n c:Nat)(l:List UInt8)(b:Bool)(hn:l.length=n)(hb:wrongB l=b)(w:World)(h:Bytes w (.slice a n c) l) :
  Calls Tryz.prog 165 #[.slice a n c] w fun e w'=>e=.returned (.bool b)∧w=w':=by
 subst hn;subst hb;exact Q9f a c l w h
theorem Q5q (a:Option Addr)(n c:Nat)(p:List UInt8)(leaf:Bool)(hn:p.length=n)(w:World)(h:Bytes w (.slice a n c) p)(hl:n+2≤140737488355328) :
  Calls Tryz.prog 150 #[.slice a n c,.bool leaf] w fun e w'=>∃ v,e=.returned (.tuple #[v,.int .i64 (joinE (tagL p leaf))])∧Bytes w' v (joinR (tagL p leaf))∧Below w.heap.size w w':=by
 cases hw:wrongB p with
 | true =>
  obtain ⟨e1,e2⟩:=tag_no (leaf:=leaf) hw
  rw [e1,e2]
  have Hw:=Qhd hw
  have Hn:=Qhd hn
  clear hw hn e1 e2
  go_enter Tryz.func150,Tryz.ntmps150
  go_wp2_with (go_at_call 165;(with_reducible refine (Qap a n c p true Hn.out Hw.out _ h).mono ?_);rintro e w1 ⟨rfl,rfl⟩)
  go_ret2
  exact ⟨_,rfl,RowOf.nil _ _ _,Below.refl _ _⟩
 | false =>
  have Hw:=Qhd hw
  have Hn:=Qhd hn
  rcases Nat.mod_two_eq_zero_or_one n with hm|hm
  ·have ht:(n:Int) % 2=0:=by omega
   have hT:=Q9l (leaf:=leaf) (show p.length % 2=0 by omega)
   obtain ⟨T,hTT⟩:∃ T,T=tagL p leaf:=⟨_,rfl⟩
   rw [←hTT] at hT ⊢
   have HT:=Qhd hT
   clear hw hn hT hTT
   have hb2:bits .or .u8 0 2=2:=by decide
   have own0:=fun (x:UInt8) (y:Int) (hy:(x.toNat:Int)=y)=>(OwnOf.made b8 1 5 w w.heap.size [x] #[.int .u8 y] 1 (by rw [←hy];rfl) rfl rfl (Nat.le_refl _) (by decide)).alloc (.cells #[.int .u8 0] 5)
   have o0:=own0 0 0 rfl
   have o2:=own0 2 2 rfl
   have r0:=fun y:Int=>(show RowOf b8 1 ((w.alloc (.cells #[.int .u8 y] 5)).alloc (.cells #[.int .u8 0] 5)) (.slice (some ⟨w.heap.size+1,0,none⟩) 1 1) [(0:UInt8)] from by
    have:=RowOf.one b8 1 (w.alloc (.cells #[.int .u8 y] 5)) (0:UInt8) #[.int .u8 0] 5 rfl rfl
    simpa using this)
   have b0:=fun y:Int=>((Below.refl w.heap.size w).alloc (Nat.le_refl _) (.cells #[.int .u8 y] 5)).alloc (by simp) (.cells #[.int .u8 0] 5)
   clear own0
   cases leaf
   all_goals
    go_enter Tryz.func150,Tryz.ntmps150
    go_wp2_with (first
     |(go_at_call 165;(with_reducible refine (Qap a n c p false Hn.out Hw.out _ h).mono ?_);rintro e w1 ⟨rfl,rfl⟩)
     |(at_builtin;refine Q1b (by rfl) (.tmp 23) (.tmp 24) 25 (by rfl) elU8 (by rfl) (by first|exact o0|exact o2) (by rfl) (r0 _) (b0 _) (by simp;omega) (by simp) (by simp [maxLen]) ?_;intro v2 w2 hv2 hg2 _ hB2;obtain ⟨a2,c2,rfl,_⟩:=hv2.form' 2 rfl)
     |(at_builtin;refine Q1b (by rfl) (.tmp 26) (.tmp 27) 25 (by rfl) elU8 (by rfl) hv2 (by rfl) (h.below hg2) hg2 hB2 (by have:=Hn.out;simp;omega) (by have:=Hn.out;simp [maxLen];omega) ?_;intro v3 w3 hv3 hg3 _ hB3;obtain ⟨a3,c3,rfl,_⟩:=hv3.form' (2+n) (by have:=Hn.out;simp;omega))
     |(go_at_call 166;(with_reducible refine (join_l a3 (2+n) c3 _ (by have:=Hn.out;simp;omega) _ hv3.row (by omega)).mono ?_);rintro e w4 ⟨v4,rfl,h4,b4⟩;have hb4:=hg3.trans (b4.mono hB3)))
    go_ret2
    exact ⟨_,by rw [HT.out];rfl,by rw [HT.out];exact h4,hb4⟩
  ·have ht:(n:Int) % 2=1:=by omega
   have hT:=Qcg (leaf:=leaf) (show p.length % 2=1 by omega)
   obtain ⟨T,hTT⟩:∃ T,T=tagL p leaf:=⟨_,rfl⟩
   rw [←hTT] at hT ⊢
   have HT:=Qhd hT
   clear hw hn hT hTT
   have hb2:bits .or .u8 1 2=3:=by decide
   have own0:=fun (x:UInt8) (y:Int) (hy:(x.toNat:Int)=y)=>(OwnOf.made b8 1 5 w w.heap.size [x] #[.int .u8 y] 1 (by rw [←hy];rfl) rfl rfl (Nat.le_refl _) (by decide))
   have o0:=own0 1 1 rfl
   have o2:=own0 3 3 rfl
   have b0:=fun y:Int=>(Below.refl w.heap.size w).alloc (Nat.le_refl _) (.cells #[.int .u8 y] 5)
   clear own0
   cases leaf
   all_goals
    go_enter Tryz.func150,Tryz.ntmps150
    go_wp2_with (first
     |(go_at_call 165;(with_reducible refine (Qap a n c p false Hn.out Hw.out _ h).mono ?_);rintro e w1 ⟨rfl,rfl⟩)
     |(at_builtin;refine Q1b (by rfl) (.tmp 26) (.tmp 27) 25 (by rfl) elU8 (by rfl) (by first|exact o0|exact o2) (by rfl) (h.below (b0 _)) (b0 _) (by simp) (by have:=Hn.out;simp;omega) (by have:=Hn.out;simp [maxLen];omega) ?_;intro v3 w3 hv3 hg3 _ hB3;obtain ⟨a3,c3,rfl,_⟩:=hv3.form' (1+n) (by have:=Hn.out;simp;omega))
     |(go_at_call 166;(with_reducible refine (join_l a3 (1+n) c3 _ (by have:=Hn.out;simp;omega) _ hv3.row (by omega)).mono ?_);rintro e w4 ⟨v4,rfl,h4,b4⟩;have hb4:=hg3.trans (b4.mono hB3)))
    go_ret2
    exact ⟨_,by rw [HT.out];rfl,by rw [HT.out];exact h4,hb4⟩
theorem Qd4 (a:Option Addr)(n c:Nat)(p:List UInt8)(leaf:Bool)(hn:p.length=n)(w:World)(h:Bytes w (.slice a n c) p)(hl:n+2≤140737488355328) :
  Calls Tryz.prog 167 #[.slice a n c,.bool leaf] w fun e w'=>∃ v,e=.returned (.tuple #[v,.int .i64 (joinE (tagL p leaf))])∧Bytes w' v (joinR (tagL p leaf))∧Below w.heap.size w w':=by
 have Hn:=Qhd hn
 rcases Nat.mod_two_eq_zero_or_one n with hm|hm
 ·have ht:(n:Int) % 2=0:=by omega
  have hT:=Q9l (leaf:=leaf) (show p.length % 2=0 by omega)
  obtain ⟨T,hTT⟩:∃ T,T=tagL p leaf:=⟨_,rfl⟩
  rw [←hTT] at hT ⊢
  have HT:=Qhd hT
  clear hn hT hTT
  have own0:=fun (x:UInt8) (y:Int) (hy:(x.toNat:Int)=y)=>(OwnOf.made b8 1 5 w w.heap.size [x,0] #[.int .u8 y,.int .u8 0] 2 (by rw [←hy];rfl) rfl rfl (Nat.le_refl _) (by decide))
  have o0:=own0 0 0 rfl
  have o2:=own0 2 2 rfl
  have b0:=fun y:Int=>((Below.refl w.heap.size w).alloc (Nat.le_refl _) (.cells #[.int .u8 y,.int .u8 0] 5))
  clear own0
  cases leaf
  all_goals
   go_enter Tryz.func167,Tryz.ntmps167
   go_wp2_with (first
    |(at_builtin;refine Q1b (by rfl) (.tmp 26) (.tmp 27) 25 (by rfl) elU8 (by rfl) (by first|exact o0|exact o2) (by rfl) (h.below (b0 _)) (b0 _) (by simp) (by have:=Hn.out;simp;omega) (by have:=Hn.out;simp [maxLen];omega) ?_;intro v3 w3 hv3 hg3 _ hB3;obtain ⟨a3,c3,rfl,_⟩:=hv3.form' (2+n) (by have:=Hn.out;simp;omega))
    |(go_at_call 182;(with_reducible refine (Qh0 a3 (2+n) c3 _ (by have:=Hn.out;simp;omega) _ hv3.row (by omega)).mono ?_);rintro e w4 ⟨v4,rfl,h4,b4⟩;have hb4:=hg3.trans (b4.mono hB3)))
   go_ret2
   exact ⟨_,by rw [HT.out];rfl,by rw [HT.out];exact h4,hb4⟩
 ·have ht:(n:Int) % 2=1:=by omega
  have hT:=Qcg (leaf:=leaf) (show p.length % 2=1 by omega)
  obtain ⟨T,hTT⟩:∃ T,T=tagL p leaf:=⟨_,rfl⟩
  rw [←hTT] at hT ⊢
  have HT:=Qhd hT
  clear hn hT hTT
  have own0:=fun (x:UInt8) (y:Int) (hy:(x.toNat:Int)=y)=>(OwnOf.made b8 1 5 w w.heap.size [x] #[.int .u8 y] 1 (by rw [←hy];rfl) rfl rfl (Nat.le_refl _) (by decide))
  have o0:=own0 1 1 rfl
  have o2:=own0 3 3 rfl
  have b0:=fun y:Int=>(Below.refl w.heap.size w).alloc (Nat.le_refl _) (.cells #[.int .u8 y] 5)
  clear own0
  cases leaf
  all_goals
   go_enter Tryz.func167,Tryz.ntmps167
   go_wp2_with (first
    |(at_builtin;refine Q1b (by rfl) (.tmp 26) (.tmp 27) 25 (by rfl) elU8 (by rfl) (by first|exact o0|exact o2) (by rfl) (h.below (b0 _)) (b0 _) (by simp) (by have:=Hn.out;simp;omega) (by have:=Hn.out;simp [maxLen];omega) ?_;intro v3 w3 hv3 hg3 _ hB3;obtain ⟨a3,c3,rfl,_⟩:=hv3.form' (1+n) (by have:=Hn.out;simp;omega))
    |(go_at_call 182;(with_reducible refine (Qh0 a3 (1+n) c3 _ (by have:=Hn.out;simp;omega) _ hv3.row (by omega)).mono ?_);rintro e w4 ⟨v4,rfl,h4,b4⟩;have hb4:=hg3.trans (b4.mono hB3)))
   go_ret2
   exact ⟨_,by rw [HT.out];rfl,by rw [HT.out];exact h4,hb4⟩
end Go.Proofs.YtbdmkfjgnjfjbaaGreat
