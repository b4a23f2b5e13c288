/- The reference's PEncode: its bytes lie in a block that the call made. | root.Code and the reference's HCode: the bytes lie in a block that the call made. | The  -/
import Derived.Test.YtbdmkfjgnjfjbaaGreatLazyServesK22
import Derived.Test.YtbdmkfjgnjfjbaaGreatLazyServesK24
import Derived.Test.YtbdmkfjgnjfjbaaGreatLazyServesK03
import Derived.Test.YtbdmkfjgnjfjbaaGreatLazyServesK23
import Derived.Test.YtbdmkfjgnjfjbaaGreatLazyServesK08
import Derived.Test.YtbdmkfjgnjfjbaaGreatLazyServesK05
import Derived.Maps.RangeWalk
import Derived.Test.YtbdmkfjgnjfjbaaGreatLazyServesK25
set_option linter.unusedSimpArgs false
set_option linter.unusedVariables false
set_option maxHeartbeats 4000000
set_option maxRecDepth 100000
namespace Go.Proofs.YtbdmkfjgnjfjbaaGreat
open Go.RowKit
theorem Q1n {P:Program}{w:World}{ops:Array Oper}{rest:List Oper}{o:Oper}{a:Act}{Q:Exit→Act→World→Prop}(hgd:o.guard=none)(src dst:TypeId)(x:Operand)
  (ho:o.op=.convert src dst x) {e:TypeId}(hs:P.underlying src=some .string) (hd:P.underlying dst=some (.slice e)) (he:P.underlying e=some (.int .u8)) (l:List UInt8) (hx:a.eval x=str l) (hl:l.length≤maxLen)
  (h:∀ v' w',Bytes w' v' l→(∀ k,v'.ownBlock=some k→w.heap.size≤k∧k<w'.heap.size)→Below w.heap.size w w'→wpList P ops Q rest (a.put o.dst v') w'):wpList P ops Q (o::rest) a w:=by
 refine wpList_plain hgd fun K hK=>?_
 have hr:=Lib.run_convert_string_bytes (P:=P) w src dst e ⟨l.toArray⟩ hs hd he
 have hb:=Q93 w e l hl
 unfold Oper.wp execOp
 unfold str at hx
 simp only [ho,hx,hr,Sem.run_bind,Result.andThen_ok,Sem.run_pure]
 exact hK _ _ (h _ _ hb.1 (fun k hk=>by simp only [Value.ownBlock,Option.some.injEq] at hk;rw [Lib.bytesWorld_size];omega) hb.2)
def Q9a (x:Itm)(w:World)(e:Ending)(w':World):Prop:=∃ v,e=.returned v∧Bytes w' v (encI x)∧(∀ k,v.ownBlock=some k→w.heap.size≤k∧k<w'.heap.size)∧Below w.heap.size w w'
theorem Qef (ta:Option Addr)(tn tc:Nat)(t:List UInt8)(htn:t.length=tn)(kv:Value)(ks:List Itm)(w:World)(h:Bytes w (.slice ta tn tc) t)(hN:tn≤1000000000000) :
  Calls Tryz.prog 56 #[.agg #[.bool false,.slice ta tn tc,kv]] w (Q9a (.mk false (.slice ta tn tc) t kv ks) w):=by
 have hbel1:Below w.heap.size w (w.alloc (.cells #[.bool false,.slice ta tn tc,kv] 77)):=Qba _ _
 have hs:=Q0h (P:=Tryz.prog) (src:=25) (dst:=9) elU8.ht (by kernel_rfl) (by kernel_rfl) (h.below hbel1)
 have hse:(⟨t.toArray⟩:ByteArray).size=tn:=htn
 by_cases h1:tn=1∧(t[0]?.getD 0).toNat<128
 ·obtain ⟨h1,h128⟩:=h1
  obtain ⟨x,rfl⟩:∃ x,t=[x]:=List.length_eq_one_iff.1 (htn.trans h1)
  subst h1
  have hx:(x.toNat:Int)<128:=by simp at h128;omega
  have hE:encI (.mk false (.slice ta 1 tc) [x] kv ks)=[x]:=by
   unfold encI textB
   rw [if_neg (by simp),if_pos (by simp at h128 ⊢;exact h128)]
  have HE:=Qhd hE
  have hx0:∀ h,(⟨#[x]⟩:ByteArray)[0]'h=x:=fun _=>rfl
  clear hE htn h128 hse
  go_enter Tryz.func56,Tryz.ntmps56
  go_wp2_with (refine Q1n (o:=⟨some 33,_,_,_,_,_⟩) (by rfl) 9 25 (.tmp 32) (by rfl) (by kernel_rfl) elU8.ht (by kernel_rfl) [x] (by rfl) (by unfold maxLen;simp) ?_;intro v2 w2 h2 h3 b2;have h3:=fun q hq=>And.intro (Nat.le_trans (Below.size hbel1) (h3 q hq).1) (h3 q hq).2;have hbel2:=Below.then hbel1 b2)
  go_ret
  exact ⟨_,rfl,by rw [HE.out];exact h2,h3,hbel2⟩
 ·have hE:encI (.mk false (.slice ta tn tc) t kv ks)=headB 128 tn++t:=by
   unfold encI textB
   rw [if_neg (by simp),if_neg (by rw [htn];exact h1),htn]
  have hhl:=Q21 128 tn (by omega)
  have ch:∀ x,Calls Tryz.prog 88 #[.int .i64 (tn:Int),.bool false] x _:=fun x=>Q4a tn false (by omega) x
  change ∀ x,Calls Tryz.prog 88 #[.int .i64 (tn:Int),.bool false] x (fun e w'=>e=.returned (str (headB 128 tn))∧Below x.heap.size x w') at ch
  obtain ⟨w1,hw1⟩:∃ w1,w1=w.alloc (.cells #[.bool false,.slice ta tn tc,kv] 77):=⟨_,rfl⟩
  obtain ⟨Hd,hHd⟩:∃ Hd,Hd=headB 128 tn:=⟨_,rfl⟩
  rw [←hHd] at hE hhl
  simp only [←hHd] at ch
  have hadd:=Q4q Hd t
  have hll:(Hd++t).length≤2000000000000:=by rw [List.length_append,htn];omega
  have HE:=Qhd hE
  have Ch:=Qhd ch
  have Hadd:=Qhd hadd
  clear hE hw1 ch hHd hadd
  by_cases ht1:tn=1
  ·subst ht1
   obtain ⟨x,rfl⟩:∃ x,t=[x]:=List.length_eq_one_iff.1 htn
   have hx:¬ (x.toNat:Int)<128:=fun hx=>h1 ⟨rfl,by simp;omega⟩
   have hx0:∀ h,(⟨#[x]⟩:ByteArray)[0]'h=x:=fun _=>rfl
   clear htn h1 hse
   go_enter Tryz.func56,Tryz.ntmps56
   go_wp2_with (first
    |(go_at_call 88;refine (Ch.out _).mono ?_;rintro e w3 ⟨rfl,b3⟩;have hbel3:=Below.then hbel1 b3)
    |(refine Q1n (o:=⟨some 41,_,_,_,_,_⟩) (by rfl) 9 25 (.tmp 40) (by rfl) (by kernel_rfl) elU8.ht (by kernel_rfl) (Hd++[x]) Hadd.out (by unfold maxLen;omega) ?_;intro v2 w2 h2 h3 b2;have h3:=fun q hq=>And.intro (Nat.le_trans (Below.size hbel3) (h3 q hq).1) (h3 q hq).2;have hbel2:=Below.then hbel3 b2))
   go_ret
   exact ⟨_,rfl,by rw [HE.out];exact h2,h3,hbel2⟩
  ·have hne:((tn:Int)==1)=false:=by rw [beq_eq_false_iff_ne];omega
   have htl:t.length≤1000000000000:=by omega
   clear h1 ht1
   go_enter Tryz.func56,Tryz.ntmps56
   go_wp2_with (first
    |(go_at_call 88;refine (Ch.out _).mono ?_;rintro e w3 ⟨rfl,b3⟩;have hbel3:=Below.then hbel1 b3)
    |(refine Q1n (o:=⟨some 41,_,_,_,_,_⟩) (by rfl) 9 25 (.tmp 40) (by rfl) (by kernel_rfl) elU8.ht (by kernel_rfl) (Hd++t) Hadd.out (by unfold maxLen;omega) ?_;intro v2 w2 h2 h3 b2;have h3:=fun q hq=>And.intro (Nat.le_trans (Below.size hbel3) (h3 q hq).1) (h3 q hq).2;have hbel2:=Below.then hbel3 b2))
   go_ret
   exact ⟨_,rfl,by rw [HE.out];exact h2,h3,hbel2⟩
theorem Qeg (w0:World)(ta:Option Addr)(tn tc:Nat)(t:List UInt8)(hbt:Bytes w0 (.slice ta tn tc) t)(ka:Option Addr)(kn kc:Nat)(ks:List Itm)(hkn:ks.length=kn)(w:World)(hw0:w0=w)(hk:RowOf icells 3 w (.slice ka kn kc) ks)(hi:∀ k∈ks,IsItm w k)(hN:bulkL ks≤1000000000000)
  (ih:∀ k∈ks,∀ w',IsItm w' k→Calls Tryz.prog 56 #[.agg (icells k).toArray] w' (Q35 k w')) :
  Calls Tryz.prog 56 #[.agg #[.bool true,.slice ta tn tc,.slice ka kn kc]] w (Q9a (.mk true (.slice ta tn tc) t (.slice ka kn kc) ks) w):=by
 subst hw0
 have hbel1:Below w0.heap.size w0 (w0.alloc (.cells #[.bool true,.slice ta tn tc,.slice ka kn kc] 77)):=Qba _ _
 have hB1:=Blk.new w0 77 [.bool true,.slice ta tn tc,.slice ka kn kc]
 have hsc:=Q0h (P:=Tryz.prog) (src:=25) (dst:=9) elU8.ht (by kernel_rfl) (by kernel_rfl) (hbt.below hbel1)
 have hE:encI (.mk true (.slice ta tn tc) t (.slice ka kn kc) ks)=headB 192 (encL ks).length++encL ks:=by
  unfold encI
  rw [if_pos rfl]
 have hll:(encL ks).length≤10000000000000:=by have:=Q8o ks hN;omega
 have hhl:=Q21 192 (encL ks).length (by omega)
 have hnl:kn≤1000000000000:=by have:=Q5l ks;omega
 have hle:=fun k=>Qbq ks k
 have hst:=fun k hk=>Q6m ks k hk
 have hall:encL (ks.take kn)=encL ks:=by rw [←hkn,List.take_length]
 have hbk:∀ k,k∈ks→(encI k).length≤10000000000000:=fun k hk=>by
  have h1:=Q34 hk
  have:=Q30 (bulkI k) k (Nat.le_refl _) (by omega)
  omega
 have Hkn:=Qhd hkn
 have HE:=Qhd hE
 have Hle:=Qhd hle
 have Hst:=Qhd hst
 have Hi:=Qhd hi
 have Ih:=Qhd ih
 have Hall:=Qhd hall
 have Hbk:=Qhd hbk
 have Hll:=Qhd hll
 have Hhl:=Qhd hhl
 clear hkn hE hle hst hi ih hall hbk hll hhl hN
 go_enter Tryz.func56,Tryz.ntmps56
 go_wp2_with fail
 go_loopw [3,14] (fun v ix wr=>∃ k:Nat,k≤kn∧ix=.int .i64 (k:Int)∧v=.string ⟨(encL (ks.take k)).toArray⟩∧Blk 77 wr w0.heap.size [.bool true,.slice ta tn tc,.slice ka kn kc]∧Below w0.heap.size w0 wr) (fun _ ix _=>kn - (intOf ix).toNat)
 case atStart=>exact ⟨0,by omega,rfl,rfl,hB1,hbel1⟩
 case round =>
  clear hbel1 hB1 hsc
  obtain ⟨k,hk',rfl,rfl,hB,hbel⟩:=hrel
  by_cases hlt:k<kn
  ·have hki:(k:Int)<(kn:Int):=by omega
   have hkl:k<ks.length:=by rw [Hkn.out];exact hlt
   obtain ⟨b,off,rfl,hr⟩:=RowOf.range Q0p (hk.below hbel) k hkl
   have hI:IsItm wr ks[k]:=(Hi.out _ (List.getElem_mem hkl)).kept hbel
   have hc:=fun x hx=>Ih.out _ (List.getElem_mem hkl) x hx
   have hs:=Hst.out k hkl
   have hl:=Hle.out k
   have hm:=Hbk.out _ (List.getElem_mem hkl)
   obtain ⟨kid,hkid⟩:∃ x,x=ks[k]:=⟨_,rfl⟩
   rw [←hkid] at hr hI hc hs hm
   obtain ⟨S0,hS0⟩:∃ S0,S0=encL (ks.take k):=⟨_,rfl⟩
   obtain ⟨S1,hS1⟩:∃ S1,S1=encL (ks.take (k+1)):=⟨_,rfl⟩
   rw [←hS0] at hs hl
   rw [←hS1] at hs
   obtain ⟨T,hT⟩:∃ T,T=encI kid:=⟨_,rfl⟩
   unfold Q35 at hc
   rw [←hT] at hc hs hm
   obtain ⟨l2,tv2,t2,kv2,ks2⟩:=kid
   obtain ⟨ta2,tc2,rfl,_,_⟩:=hI.inv.1.form
   obtain ⟨ka2,kc2,rfl,_,_⟩:=hI.inv.2.1.form
   obtain ⟨tn2,htn2⟩:∃ tn2,tn2=t2.length:=⟨_,rfl⟩
   obtain ⟨kn2,hkn2⟩:∃ kn2,kn2=ks2.length:=⟨_,rfl⟩
   rw [←htn2,←hkn2] at hr hI hc
   change wr.rangeAt b (off+k*3) [.bool l2,.slice ta2 tn2 tc2,.slice ka2 kn2 kc2] at hr
   change ∀ x,IsItm x _→Calls Tryz.prog 56 #[.agg #[.bool l2,.slice ta2 tn2 tc2,.slice ka2 kn2 kc2]] x _ at hc
   have hbs:=hbel.size
   have hbel2:Below w0.heap.size w0 (wr.alloc (.cells #[.bool l2,.slice ta2 tn2 tc2,.slice ka2 kn2 kc2] 77)):=hbel.alloc hbs _
   have hI2:=hI.kept ((Below.refl wr.heap.size wr).alloc (Nat.le_refl _) (.cells #[.bool l2,.slice ta2 tn2 tc2,.slice ka2 kn2 kc2] 77))
   have hB2:=hB.alloc (.cells #[.bool l2,.slice ta2 tn2 tc2,.slice ka2 kn2 kc2] 77)
   have hbb:S0.length+T.length≤30000000000000:=by have:=Hll.out;omega
   have hadd:=Q4q S0 T
   rw [←hs,hS1] at hadd
   have Hadd:=Qhd hadd
   have Hc:=Qhd hc
   clear hs hc hadd hS1 hT hkid hI hl hm htn2 hkn2
   rw [←hS0]
   clear hS0
   go_wp2_with (first
    |(refine wpList_load_mid (op:=⟨some 17,_,_,_,_,_⟩) (by rfl) 77 (.tmp 16) (by rfl) b (off+k*3) (by rfl) [.bool l2,.slice ta2 tn2 tc2,.slice ka2 kn2 kc2] _ hr Tryz.underlying77 rfl (by kernel_rfl) ?_)
    |(go_at_call 56;(with_reducible refine (Hc.out _ hI2).mono ?_);rintro e w3 ⟨v3,rfl,o3,b3⟩;have hbel3:=Below.then hbel2 b3;have hB3:=hB2.kept b3;have hsc:=Q0h (P:=Tryz.prog) (src:=25) (dst:=9) elU8.ht (by kernel_rfl) (by kernel_rfl) o3))
   go_roundw
   case rel=>exact ⟨k+1,by omega,by go_num,Hadd.out,hB3,hbel3⟩
   case measure=>simp [intOf];omega
  ·obtain rfl:k=kn:=by omega
   rw [Hall.out]
   have hN2:(encL ks).length≤10000000000000:=by have:=Hll.out;omega
   obtain ⟨S,hS⟩:∃ S,S=encL ks:=⟨_,rfl⟩
   have hhl:=Hhl.out
   have hE:=HE.out
   rw [←hS] at hhl hE hN2
   rw [←hS]
   obtain ⟨sn,hsn⟩:∃ sn,sn=S.length:=⟨_,rfl⟩
   rw [←hsn] at hhl hE
   have ch:∀ x,Calls Tryz.prog 88 #[.int .i64 ((S.length:Nat):Int),.bool true] x _:=fun x=>Q4a S.length true (by omega) x
   change ∀ x,Calls Tryz.prog 88 #[.int .i64 ((S.length:Nat):Int),.bool true] x (fun e w'=>e=.returned (str (headB 192 S.length))∧Below x.heap.size x w') at ch
   rw [hsn] at hE hhl
   obtain ⟨Hd,hHd⟩:∃ Hd,Hd=headB 192 S.length:=⟨_,rfl⟩
   rw [←hHd] at hhl hE
   simp only [←hHd] at ch
   have hadd:=Q4q Hd S
   have hll:(Hd++S).length≤20000000000000:=by rw [List.length_append];omega
   have Ch:=Qhd ch
   have HE2:=Qhd hE
   have Hadd:=Qhd hadd
   clear ch hE hsn hHd hS hadd
   have hbs:=hbel.size
   have hc0:=hB.cell 0
   have hc0':wr.cell? ⟨w0.heap.size,0,none⟩=some (.bool true):=hc0
   clear hc0
   go_wp2_with (first
    |(go_at_call 88;(with_reducible refine (Ch.out _).mono ?_);rintro e w3 ⟨rfl,b3⟩;have hbel3:=Below.then hbel b3)
    |(refine Q1n (o:=⟨some 41,_,_,_,_,_⟩) (by rfl) 9 25 (.tmp 40) (by rfl) (by kernel_rfl) elU8.ht (by kernel_rfl) (Hd++S) Hadd.out (by unfold maxLen;omega) ?_;intro v2 w2 h2 h3 b2;have h3:=fun q hq=>And.intro (Nat.le_trans (Below.size hbel3) (h3 q hq).1) (h3 q hq).2;have hbel2:=Below.then hbel3 b2))
   go_ret
   exact ⟨_,rfl,by rw [HE2.out];exact h2,h3,hbel2⟩
theorem Q61 (n:Nat)(x:Itm)(w:World)(h:bulkI x≤n)(hn:n≤1000000000000)(hI:IsItm w x):Calls Tryz.prog 56 #[.agg (icells x).toArray] w (Q9a x w):=by
 obtain ⟨l,tv,t,kv,ks⟩:=x
 obtain ⟨h1,h2,h3⟩:=hI.inv
 obtain ⟨ta,tc,rfl,_,_⟩:=h1.form
 obtain ⟨ka,kc,rfl,_,_⟩:=h2.form
 unfold bulkI at h
 cases l with
 | false=>exact Qef ta t.length tc t rfl _ ks w h1 (by omega)
 | true=>exact Qeg w ta t.length tc t h1 ka ks.length kc ks rfl w rfl h2 h3 (by omega) (fun k hk w' hI'=>Q62 n k w' (by have:=Q34 hk;omega) (by omega) hI')
def Qip (ok:Bool)(B:List UInt8)(w:World)(e:Ending)(w':World):Prop :=
 ∃ v,e=.returned (.tuple #[v,.int .i64 (if ok=true then 0 else 1)])∧Bytes w' v (if ok=true then B else [])∧(∀ k,v.ownBlock=some k→w.heap.size≤k∧k<w'.heap.size)∧Below w.heap.size w w'∧(if ok=true then B else []).length≤1000000000
theorem Qkh (kd:Int)(pa va ka:Option Addr)(pn pc vn vc kn kc:Nat)(p v:List UInt8)(ps:List (Value × List UInt8))(hpn:p.length=pn)(hvn:v.length=vn)(hkn:ps.length=kn)(w:World)(hp:Bytes w (.slice pa pn pc) p)(hv:Bytes w (.slice va vn vc) v)(hk:Texts w (.slice ka kn kc) ps)(hP:pn≤4194304)(hV:vn≤1048576)(hK:kn≤1048576)(hKs:∀ q∈ps,q.2.length≤1048576) :
  Calls Tryz.prog 130 #[.agg #[.int .i64 kd,.slice pa pn pc,.slice va vn vc,.slice ka kn kc]] w (Qip (shOk kd p v (ps.map (·.2))) (shB kd p v (ps.map (·.2))) w):=by
 have hs1:=Blk.new w 134 [.int .i64 kd,.slice pa pn pc,.slice va vn vc,.slice ka kn kc]
 have hbel1:Below w.heap.size w (w.alloc (.cells #[.int .i64 kd,.slice pa pn pc,.slice va vn vc,.slice ka kn kc] 134)):=Qba _ _
 have ci:=fun x hb=>Qk5 kd pa va ka pn pc vn vc kn kc p v ps hpn hvn hkn x (hp.below hb) (hv.below hb) (hk.below hb) hP hV hK hKs
 obtain ⟨ok,hok⟩:∃ ok,ok=shOk kd p v (ps.map (·.2)):=⟨_,rfl⟩
 obtain ⟨B,hB⟩:∃ B,B=shB kd p v (ps.map (·.2)):=⟨_,rfl⟩
 simp only [←hok,←hB] at ci
 rw [←hok,←hB]
 have Ci:=Qhd ci
 clear ci hok hB hpn hvn hkn hKs hp hv hk
 cases ok with
 | false =>
  go_enter Tryz.func130,Tryz.ntmps130
  go_wp2_with (first
   |(refine Qla 134 1 w.heap.size Q1k hs1 (by rfl) ?_)
   |(go_at_call 127;refine (Ci.out _ hbel1).mono ?_;rintro e w3 ⟨il,ta,tn,tc,t,ka',kn',kc',ks,rfl,hI,b3⟩;have hbel3:=Below.then hbel1 b3;have hbel4:=hbel3.alloc hbel3.size (.cells #[.bool il,.slice ta tn tc,.slice ka' kn' kc'] 77)))
  go_ret2
  exact ⟨_,rfl,RowOf.nil b8 1 _,fun q hq=>by simp [Value.ownBlock] at hq,hbel4,by simp⟩
 | true =>
  go_enter Tryz.func130,Tryz.ntmps130
  go_wp2_with (first
   |(refine Qla 134 1 w.heap.size Q1k hs1 (by rfl) ?_)
   |(go_at_call 127;refine (Ci.out _ hbel1).mono ?_;rintro e w3 ⟨il,ta,tn,tc,t,ka',kn',kc',ks,rfl,hI,b3⟩;have hbel3:=Below.then hbel1 b3;have hbel4:=hbel3.alloc hbel3.size (.cells #[.bool il,.slice ta tn tc,.slice ka' kn' kc'] 77);obtain ⟨hI1,hI2,hI3⟩:=hI rfl;have hI4:=hI1.kept ((Below.refl w3.heap.size w3).alloc (Nat.le_refl _) (.cells #[.bool il,.slice ta tn tc,.slice ka' kn' kc'] 77));have HI2:=Qhd hI2;have HL:=Qhd (show B.length≤1000000000 by rw [←hI2];have:=Q30 100000000 _ hI3 (by omega);omega);clear hI hI1 hI2)
   |(go_at_call 47;refine (Q4y _ (.mk il (.slice ta tn tc) t (.slice ka' kn' kc') ks) _ hI3 (by omega) hI4).mono ?_;rintro e w5 ⟨v5,rfl,o5,b5⟩;have hbel5:=Below.then hbel4 b5))
  go_ret2
  exact ⟨_,rfl,by rw [←HI2.out];exact o5.row,fun q hq=>⟨Nat.le_trans (Below.size hbel4) (OwnOf.lt o5 q hq),OwnOf.ltT o5 q hq⟩,hbel5,HL.out⟩
theorem Q6d (kd:Int)(pa va ka:Option Addr)(pn pc vn vc kn kc:Nat)(p v:List UInt8)(ps:List (Value × List UInt8))(hpn:p.length=pn)(hvn:v.length=vn)(hkn:ps.length=kn)(w:World)(hp:Bytes w (.slice pa pn pc) p)(hv:Bytes w (.slice va vn vc) v)(hk:Texts w (.slice ka kn kc) ps)(hP:pn≤4194304)(hV:vn≤1048576)(hK:kn≤1048576)(hKs:∀ q∈ps,q.2.length≤1048576) :
  Calls Tryz.prog 136 #[.agg #[.int .i64 kd,.slice pa pn pc,.slice va vn vc,.slice ka kn kc]] w (Qip (shOk kd p v (ps.map (·.2))) (shB kd p v (ps.map (·.2))) w):=by
 have hs1:=Blk.new w 134 [.int .i64 kd,.slice pa pn pc,.slice va vn vc,.slice ka kn kc]
 have hbel1:Below w.heap.size w (w.alloc (.cells #[.int .i64 kd,.slice pa pn pc,.slice va vn vc,.slice ka kn kc] 134)):=Qba _ _
 have ci:=fun x hb=>Qfs kd pa va ka pn pc vn vc kn kc p v ps hpn hvn hkn x (hp.below hb) (hv.below hb) (hk.below hb) hP hV hK hKs
 obtain ⟨ok,hok⟩:∃ ok,ok=shOk kd p v (ps.map (·.2)):=⟨_,rfl⟩
 obtain ⟨B,hB⟩:∃ B,B=shB kd p v (ps.map (·.2)):=⟨_,rfl⟩
 simp only [←hok,←hB] at ci
 rw [←hok,←hB]
 have Ci:=Qhd ci
 clear ci hok hB hpn hvn hkn hKs hp hv hk
 cases ok with
 | false =>
  go_enter Tryz.func136,Tryz.ntmps136
  go_wp2_with (first
   |(refine Qla 134 1 w.heap.size Q1k hs1 (by rfl) ?_)
   |(go_at_call 160;refine (Ci.out _ hbel1).mono ?_;rintro e w3 ⟨il,ta,tn,tc,t,ka',kn',kc',ks,rfl,hI,b3⟩;have hbel3:=Below.then hbel1 b3;have hbel4:=hbel3.alloc hbel3.size (.cells #[.bool il,.slice ta tn tc,.slice ka' kn' kc'] 77)))
  go_ret2
  exact ⟨_,rfl,RowOf.nil b8 1 _,fun q hq=>by simp [Value.ownBlock] at hq,hbel4,by simp⟩
 | true =>
  go_enter Tryz.func136,Tryz.ntmps136
  go_wp2_with (first
   |(refine Qla 134 1 w.heap.size Q1k hs1 (by rfl) ?_)
   |(go_at_call 160;refine (Ci.out _ hbel1).mono ?_;rintro e w3 ⟨il,ta,tn,tc,t,ka',kn',kc',ks,rfl,hI,b3⟩;have hbel3:=Below.then hbel1 b3;have hbel4:=hbel3.alloc hbel3.size (.cells #[.bool il,.slice ta tn tc,.slice ka' kn' kc'] 77);obtain ⟨hI1,hI2,hI3⟩:=hI rfl;have hI4:=hI1.kept ((Below.refl w3.heap.size w3).alloc (Nat.le_refl _) (.cells #[.bool il,.slice ta tn tc,.slice ka' kn' kc'] 77));have HI2:=Qhd hI2;have HL:=Qhd (show B.length≤1000000000 by rw [←hI2];have:=Q30 100000000 _ hI3 (by omega);omega);clear hI hI1 hI2)
   |(go_at_call 56;refine (Q61 _ (.mk il (.slice ta tn tc) t (.slice ka' kn' kc') ks) _ hI3 (by omega) hI4).mono ?_;rintro e w5 ⟨v5,rfl,o5,f5,b5⟩;have hbel5:=Below.then hbel4 b5))
  go_ret2
  exact ⟨_,rfl,by rw [←HI2.out];exact o5,fun q hq=>⟨Nat.le_trans (Below.size hbel4) (f5 q hq).1,(f5 q hq).2⟩,hbel5,HL.out⟩
mutual
def cdN:Nd→List UInt8
 | .mk kd _ p _ v _ ks=>if shOk kd p v (if kd=1 then [] else smN ks)=true then shB kd p v (if kd=1 then [] else smN ks) else []
def smN:List Nd→List (List UInt8)
 | []=>[]
 | k::ks=>(if k.kd=0 then [] else sumB (cdN k))::smN ks
end
mutual
def alN:Nd→List (List UInt8)
 | .mk kd pv p vv v kv ks=>cdN (.mk kd pv p vv v kv ks)::(if kd=1 then [] else alL ks)
def alL:List Nd→List (List UInt8)
 | []=>[]
 | k::ks=>(if k.kd=0 then [] else alN k)++alL ks
end
theorem Q86:∀ (ks:List Nd),(smN ks).length=ks.length
 | []=>by rw [smN];rfl
 | k::ks=>by rw [smN,List.length_cons,List.length_cons,Q86 ks]
theorem Qfx (p v:List UInt8)(s s':List (List UInt8)):shOk 1 p v s=shOk 1 p v s':=by simp [shOk]
theorem Qj8 (p v:List UInt8)(s s':List (List UInt8)):shB 1 p v s=shB 1 p v s':=by simp [shB]
theorem Q46:∀ (ks:List Nd)(k:Nd),smN (ks++[k])=smN ks++[if k.kd=0 then [] else sumB (cdN k)]
 | [],k=>by rw [List.nil_append,smN,smN];rfl
 | x::ks,k=>by rw [List.cons_append,smN,smN,Q46 ks k,List.cons_append]
theorem Q4m:∀ (ks:List Nd)(k:Nd),alL (ks++[k])=alL ks++(if k.kd=0 then [] else alN k)
 | [],k=>by rw [List.nil_append,alL];simp only [alL,List.append_nil,List.nil_append]
 | x::ks,k=>by rw [List.cons_append,alL,alL,Q4m ks k,List.append_assoc]
theorem alN_ne (t:Nd):∃ l,alN t=cdN t::l:=by
 cases t with
 | mk kd pv p vv v kv ks=>exact ⟨_,by rw [alN]⟩
def TcPost (B:List (List UInt8))(w:World)(e:Ending)(w':World):Prop:=∃ v ps,e=.returned v∧OwnOf tcell 1 25 w' w.heap.size v ps ∧
 (∀ q∈ps,Bytes w' q.1 q.2∧q.2.length≤1000000000∧∀ k,q.1.ownBlock=some k→w.heap.size≤k∧k<w'.heap.size∧v.ownBlock≠some k)∧ps.map (·.2)=B∧Below w.heap.size w w'
theorem Qkv (pa va ka:Option Addr)(pn pc vn vc kn kc:Nat)(p v:List UInt8)(ks:List Nd)(pv vv kv:Value)(hpn:p.length=pn)(hvn:v.length=vn)(w:World)(hp:Bytes w (.slice pa pn pc) p)(hv:Bytes w (.slice va vn vc) v)(hP:pn≤4194304)(hV:vn≤1048576) :
  Calls Tryz.prog 109 #[.agg #[.int .i64 1,.slice pa pn pc,.slice va vn vc,.slice ka kn kc]] w (TcPost (alN (.mk 1 pv p vv v kv ks)) w):=by
 obtain ⟨w2,hw2⟩:∃ w2,w2=(w.alloc (.cells #[.int .i64 1,.slice pa pn pc,.slice va vn vc,.slice ka kn kc] 70)).alloc (.cells #[.int .i64 0,.slice none 0 0,.slice none 0 0,.slice none 0 0] 134):=⟨_,rfl⟩
 have z1:Blk 70 w2 w.heap.size [.int .i64 1,.slice pa pn pc,.slice va vn vc,.slice ka kn kc]:=by rw [hw2];exact (Blk.new w _ _).alloc _
 have z2:Blk 134 w2 (w.heap.size+1) [.int .i64 0,.slice none 0 0,.slice none 0 0,.slice none 0 0]:=by
  have:=Blk.new (w.alloc (.cells #[.int .i64 1,.slice pa pn pc,.slice va vn vc,.slice ka kn kc] 70)) 134 [.int .i64 0,.slice none 0 0,.slice none 0 0,.slice none 0 0]
  simp only [World.size_alloc] at this
  rw [hw2];exact this
 have hbel:Below w.heap.size w w2:=by rw [hw2];exact (Qba _ _).alloc (by simp) _
 have ci:=fun x (hb:Below w.heap.size w x)=>Q6d 1 pa va none pn pc vn vc 0 0 p v [] hpn hvn rfl x (hp.below hb) (hv.below hb) ⟨RowOf.nil tcell 1 x,fun q hq=>absurd hq (by simp)⟩ hP hV (by omega) (fun q hq=>absurd hq (by simp))
 have hcd:cdN (.mk 1 pv p vv v kv ks)=if shOk 1 p v []=true then shB 1 p v [] else []:=by rw [cdN,if_pos rfl]
 have hal:alN (.mk 1 pv p vv v kv ks)=[cdN (.mk 1 pv p vv v kv ks)]:=by rw [alN,if_pos rfl]
 rw [hal,hcd]
 obtain ⟨CB,hCB⟩:∃ B,B=if shOk 1 p v []=true then shB 1 p v [] else []:=⟨_,rfl⟩
 rw [←hCB]
 obtain ⟨er',her⟩:∃ x:Int,x=if shOk 1 p v []=true then 0 else 1:=⟨_,rfl⟩
 have Ci:Hid (∀ x,Below w.heap.size w x→Calls Tryz.prog 136 #[.agg #[.int .i64 1,.slice pa pn pc,.slice va vn vc,.slice none 0 0]] x fun e w'=>∃ cv,e=.returned (.tuple #[cv,.int .i64 er'])∧Bytes w' cv CB∧(∀ k,cv.ownBlock=some k→x.heap.size≤k∧k<w'.heap.size)∧Below x.heap.size x w'∧CB.length≤1000000000):=Qhd fun x hb=>by rw [hCB,her];exact ci x hb
 have c0:=z1.cell 0
 have c1:=z1.cell 1
 have c2:=z1.cell 2
 have Hw2:=Qhd hw2
 have Hbel:=Qhd hbel
 clear hw2 hbel ci hcd hal hCB her hpn hvn hp hv
 go_enter Tryz.func109,Tryz.ntmps109
 go_wp2_with (first
  |(rw [←Hw2.out];have c0:w2.cell? ⟨w.heap.size,0,none⟩=some (.int .i64 1):=c0;have c1:w2.cell? ⟨w.heap.size,1,none⟩=some (.slice pa pn pc):=c1;have c2:w2.cell? ⟨w.heap.size,2,none⟩=some (.slice va vn vc):=c2)
  |((with_reducible refine Qgs 21 ?_);refine Qsa 134 3 21 (w.heap.size+1) [.int .i64 1,.slice pa pn pc,.slice va vn vc,.slice none 0 0] Q1k z2 (by rfl) (by rfl) (by intro u hu;simp at hu;rcases hu with rfl|rfl|rfl|rfl<;>rfl) Hbel.out (by omega) ?_;intro w3 y3 hbel3 _)
  |((with_reducible refine Qgl 64 ?_);refine Qla 134 3 (w.heap.size+1) Q1k y3 (by rfl) ?_)
  |(go_at_call 136;refine (Ci.out _ hbel3).mono ?_;rintro e w4 ⟨cv,rfl,hc,fc,b4,lc⟩;obtain ⟨ca,cc,rfl,_⟩:=hc.form;have hbel4:=Below.then hbel3 b4)
  |((with_reducible refine Qgl 69 ?_);refine Q0s (o:=⟨some 69,_,_,_,_,_⟩) (by rfl) 44 1 [(0,.tmp 68)] (by rfl) elText [(.slice ca CB.length cc,CB)] [.slice ca CB.length cc] (by rfl) (by rfl) (by rfl) (by omega) (by omega) ?_;intro w5 y5 _ b5;have hbel5:=Below.then hbel4 b5;have o5:=Blk.own (f:=tcell) (size:=1) (l:=[(Value.slice ca CB.length cc,CB)]) (B:=w.heap.size) y5 1 (fun _=>rfl) rfl hbel4.size (by unfold maxLen;omega);have hc:=hc.kept b5)
  |((with_reducible refine Qgl 71 ?_);refine Q0g (o:=⟨some 71,_,_,_,_,_⟩) (by rfl) (.tmp 69) (.tmp 70) 44 (by rfl) elText (m:=[]) (by simp) (by rfl) o5 (by rfl) (RowOf.nil tcell 1 _) (by have:=hbel5.size;omega) (by simp) (by simp;unfold maxLen;omega) ?_;intro v6 w6 o6 g6 p6))
 go_ret
 have hcl:∀ k,(Value.slice ca CB.length cc).ownBlock=some k→k<w4.heap.size:=fun k hk=>(fc k hk).2
 refine ⟨v6,[(.slice ca CB.length cc,CB)],rfl,by simpa using o6,fun q hq=>?_,rfl,?_⟩
 ·rw [List.mem_singleton] at hq
  subst hq
  refine ⟨RowOf.offT hc g6 (fun x hx=>Nat.ne_of_lt (hcl x hx)),lc,fun k hk=>⟨Nat.le_trans hbel3.size (fc k hk).1,Nat.lt_of_lt_of_le (hcl k hk) (Nat.le_trans b5.size g6.size),fun e=>?_⟩⟩
  have h1:=hcl k hk
  rcases p6 k e with h|h
  ·simp only [Value.ownBlock,Option.some.injEq] at h;omega
  ·have:=b5.size;omega
 ·exact hbel5.grown g6 hbel5.size (fun k hk=>by simp only [Value.ownBlock,Option.some.injEq] at hk;have:=hbel4.size;omega)
structure TxG (w:World)(kv rv:Value)(u:World)(q:Value × List UInt8):Prop where
 h:Bytes u q.1 q.2
 l:q.2.length≤1000000000
 b:∀ k,q.1.ownBlock=some k→w.heap.size+2≤k∧k<u.heap.size∧kv.ownBlock≠some k∧rv.ownBlock≠some k
theorem TxG.kept {w:World}{kv rv:Value}{u u':World}{q:Value × List UInt8}(h:TxG w kv rv u q)(hb:Below u.heap.size u u'):TxG w kv rv u' q :=
 ⟨h.h.kept hb,h.l,fun k hk=>⟨(h.b k hk).1,Nat.lt_of_lt_of_le (h.b k hk).2.1 hb.size,(h.b k hk).2.2⟩⟩
theorem TxG.grewS {w:World}{kv kv' rv:Value}{u u':World}{q:Value × List UInt8}(h:TxG w kv rv u q)(hg:u.grownBy u' kv.ownBlock)(hp:∀ k,kv'.ownBlock=some k→kv.ownBlock=some k∨u.heap.size≤k):TxG w kv' rv u' q :=
 ⟨RowOf.grownT h.h hg (fun k hk=>(h.b k hk).2.1) (fun k hk=>(h.b k hk).2.2.1),h.l,fun k hk=>⟨(h.b k hk).1,Nat.lt_of_lt_of_le (h.b k hk).2.1 hg.size,fun e=>(hp k e).elim (h.b k hk).2.2.1 (fun h1=>by have:=(h.b k hk).2.1;omega),(h.b k hk).2.2.2⟩⟩
theorem TxG.swap {w:World}{kv rv:Value}{u:World}{q:Value × List UInt8}(h:TxG w kv rv u q):TxG w rv kv u q:=⟨h.h,h.l,fun k hk=>⟨(h.b k hk).1,(h.b k hk).2.1,(h.b k hk).2.2.2,(h.b k hk).2.2.1⟩⟩
structure TcW (w:World)(N4:List Value)(kd:Int)(P V kv rv:Value)(sums rest:List (Value × List UInt8))(u:World):Prop where
 hb:Below w.heap.size w u
 z1:Blk 70 u w.heap.size N4
 z2:Blk 134 u (w.heap.size+1) [.int .i64 kd,P,V,kv]
 oS:OwnOf tcell 1 25 u (w.heap.size+2) kv sums
 oR:OwnOf tcell 1 25 u (w.heap.size+2) rv rest
 ne:∀ k,kv.ownBlock=some k→rv.ownBlock≠some k
 tS:∀ q∈sums,TxG w kv rv u q
 tR:∀ q∈rest,TxG w kv rv u q
section
variable {w:World} {N4:List Value} {kd:Int} {P V kv kv' rv rv':Value} {sums rest sums' rest':List (Value × List UInt8)} {u u':World}
theorem TcW.kept (h:TcW w N4 kd P V kv rv sums rest u)(hb:Below u.heap.size u u'):TcW w N4 kd P V kv rv sums rest u' :=
 ⟨Below.then h.hb hb,h.z1.kept hb,h.z2.kept hb,h.oS.kept hb,h.oR.kept hb,h.ne,fun q hq=>(h.tS q hq).kept hb,fun q hq=>(h.tR q hq).kept hb⟩
theorem TcW.grewR (h:TcW w N4 kd P V kv rv sums rest u)(hg:u.grownBy u' rv.ownBlock)(ho:OwnOf tcell 1 25 u' (w.heap.size+2) rv' (rest++rest'))(hp:∀ k,rv'.ownBlock=some k→rv.ownBlock=some k∨u.heap.size≤k)(hn:∀ q∈rest',TxG w kv rv u q):TcW w N4 kd P V kv rv' sums (rest++rest') u' :=
 ⟨h.hb.grown hg h.hb.size (fun k hk=>by have:=OwnOf.lt h.oR k hk;omega),h.z1.grown hg (h.oR.notT h.z1 (by decide)),h.z2.grown hg (h.oR.notT h.z2 (by decide)),
  h.oS.grown hg (fun k hk e=>h.ne k e hk),ho,fun k hk e=>(hp k e).elim (h.ne k hk) (fun h1=>by have:=OwnOf.ltT h.oS k hk;omega),
  fun q hq=>((h.tS q hq).swap.grewS hg hp).swap,fun q hq=>by
   rcases List.mem_append.1 hq with hq|hq
   ·exact ((h.tR q hq).swap.grewS hg hp).swap
   ·exact ((hn q hq).swap.grewS hg hp).swap⟩
theorem TxG.set {q:Value × List UInt8}(h:TxG w kv rv u q)(i:Nat)(v:Value):TxG w kv rv (u.setCell ⟨w.heap.size+1,i,none⟩ v) q :=
 ⟨RowOf.grownT h.h (gsetT u _ i v) (fun k hk=>(h.b k hk).2.1) (fun k hk e=>by have:=(h.b k hk).1;simp only [Option.some.injEq] at e;omega),h.l,fun k hk=>by have:=h.b k hk;simpa only [World.size_setCell] using this⟩
theorem TcW.grewS (h:TcW w N4 kd P V kv rv sums rest u)(hg:u.grownBy u' kv.ownBlock)(ho:OwnOf tcell 1 25 u' (w.heap.size+2) kv' (sums++sums'))(hp:∀ k,kv'.ownBlock=some k→kv.ownBlock=some k∨u.heap.size≤k)(hn:∀ q∈sums',TxG w kv rv u q) :
  TcW w N4 kd P V kv' rv (sums++sums') rest (u'.setCell ⟨w.heap.size+1,3,none⟩ kv'):=by
 have y1:=h.z1.grown hg (h.oS.notT h.z1 (by decide))
 have y2:=h.z2.grown hg (h.oS.notT h.z2 (by decide))
 have oR:=h.oR.grown hg (fun k hk e=>h.ne k hk e)
 have hb:=h.hb.grown hg h.hb.size (fun k hk=>by have:=OwnOf.lt h.oS k hk;omega)
 have g2:=gsetT u' (w.heap.size+1) 3 kv'
 have y3:=y2.set 3 kv'
 refine ⟨hb.setCell (by simp) _,y1.other _ (by simp) _,y3,ho.grown g2 (fun k hk=>by cases hk;exact ho.notT y2 (by decide)),oR.grown g2 (fun k hk=>by cases hk;exact oR.notT y2 (by decide)),fun k hk e=>(hp k hk).elim (fun h1=>h.ne k h1 e) (fun h1=>by have:=OwnOf.ltT h.oR k e;omega),fun q hq=>?_,fun q hq=>((h.tR q hq).grewS hg hp).set 3 kv'⟩
 rcases List.mem_append.1 hq with hq|hq
 ·exact ((h.tS q hq).grewS hg hp).set 3 kv'
 ·exact ((hn q hq).grewS hg hp).set 3 kv'
end
inductive OkN:Nd→Prop where
 | leaf (pv:Value) (p:List UInt8) (vv:Value) (v:List UInt8) (kv:Value) (ks:List Nd):OkN (.mk 1 pv p vv v kv ks)
 | inner (kd:Int) (pv:Value) (p:List UInt8) (vv:Value) (v:List UInt8) (kv:Value) (ks:List Nd) (hk:kd=2∨kd=3) (h:∀ k∈ks,k.kd≠0→OkN k):OkN (.mk kd pv p vv v kv ks)
mutual
theorem rgt_ok:∀ (d:Nat)(t:Nd),rgt d t=true→t.kd≠0→OkN t
 | d,.mk kd pv p vv v kv ks,h,hne=>by
  unfold rgt at h
  by_cases h0:kd=0
  ·exact absurd h0 hne
  ·rw [if_neg h0] at h
   by_cases h1:kd=1
   ·subst h1;exact .leaf ..
   ·rw [if_neg h1] at h
    by_cases h2:kd=2
    ·rw [if_pos h2] at h
     simp only [Bool.and_eq_true] at h
     exact .inner kd pv p vv v kv ks (.inl h2) (Qb4 _ ks h.2)
    ·rw [if_neg h2] at h
     by_cases h3:kd=3
     ·rw [if_pos h3] at h
      simp only [Bool.and_eq_true] at h
      exact .inner kd pv p vv v kv ks (.inr h3) (Qb4 _ ks h.1.2)
     ·rw [if_neg h3] at h;cases h
theorem Qb4:∀ (d:Nat)(ks:List Nd),rgtL d ks=true→∀ k∈ks,k.kd≠0→OkN k
 | _,[],_,k,hk,_=>by simp at hk
 | d,x::ks,h,k,hk,hne=>by
  unfold rgtL at h
  rw [Bool.and_eq_true] at h
  rcases List.mem_cons.1 hk with hk|hk
  ·rw [hk] at hne ⊢;exact rgt_ok d x h.1 hne
  ·exact Qb4 d ks h.2 k hk hne
end
inductive FnN:Nd→Prop where
 | mk (kd:Int) (pv:Value) (p:List UInt8) (vv:Value) (v:List UInt8) (kv:Value) (ks:List Nd) (hp:p.length≤1048576) (hv:v.length≤1048576) (hk:ks.length≤1048576) (h:∀ k∈ks,FnN k):FnN (.mk kd pv p vv v kv ks)
theorem FnN.inv {kd:Int}{pv:Value}{p:List UInt8}{vv:Value}{v:List UInt8}{kv:Value}{ks:List Nd}(h:FnN (.mk kd pv p vv v kv ks)):p.length≤1048576∧v.length≤1048576∧ks.length≤1048576∧∀ k∈ks,FnN k:=by
 cases h with
 | mk _ _ _ _ _ _ _ hp hv hk h=>exact ⟨hp,hv,hk,h⟩
end Go.Proofs.YtbdmkfjgnjfjbaaGreat
