/- Rows and blocks that lie apart from what grows. | The reference's PEncode: its bytes lie in a block that the call made. | root.Code and the reference's HCode: t -/
import Derived.Test.YtcgpjceopnfahaaGreatWorldChecksK01
import Derived.Test.YtcgpjceopnfahaaGreatWorldChecksK11
import Derived.Test.YtcgpjceopnfahaaGreatWorldChecksK14
import Derived.Test.YtcgpjceopnfahaaGreatWorldChecksK02
import Derived.Test.YtcgpjceopnfahaaGreatWorldChecksK13
import Derived.Test.YtcgpjceopnfahaaGreatWorldChecksK05
import Derived.Test.YtcgpjceopnfahaaGreatWorldChecksK03
import Derived.Maps.RangeWalk
set_option linter.unusedSimpArgs false
set_option linter.unusedVariables false
set_option maxHeartbeats 4000000
set_option maxRecDepth 100000
namespace Go.Proofs.YtcgpjceopnfahaaGreat
open Go.RowKit
theorem OwnOf.ltT {α:Type}{f:α→List Value}{size:Nat}{e:TypeId}{w:World}{B:Nat}{v:Value}{l:List α}(h:OwnOf f size e w B v l):∀ k,v.ownBlock=some k→k<w.heap.size:=by
 intro k hk
 rcases h.2 with ⟨rfl,_⟩|⟨g,cap,cur,rfl,_,hg,_⟩
 ·simp [Value.ownBlock] at hk
 ·simp only [Value.ownBlock,Option.some.injEq] at hk
  subst hk
  exact (Array.getElem?_eq_some_iff.1 hg).1
theorem RowOf.offT {α:Type}{f:α→List Value}{size:Nat}{w w':World}{v:Value}{g:Nat}{l:List α}(h:RowOf f size w v l)(hg:w.grownBy w' (some g))(hne:∀ x,v.ownBlock=some x→x≠g):RowOf f size w' v l:=by
 obtain ⟨a,c,rfl,_⟩:=h.form
 cases a with
 | none =>
  obtain ⟨h0,a,c',hv,h1,h2,h3⟩:=h
  simp only [Value.slice.injEq] at hv
  obtain ⟨rfl,_,rfl⟩:=hv
  refine ⟨h0,none,_,rfl,h1,h2,.inl ?_⟩
  rcases h3 with h3|⟨_,_,_,he,_⟩
  ·exact h3
  ·simp at he
 | some p =>
  obtain ⟨b,off,s⟩:=p
  exact h.grownNe hg (hne b rfl)
theorem RowOf.grownT {α:Type}{f:α→List Value}{size:Nat}{w w':World}{v:Value}{l:List α}{row:Option Nat}(h:RowOf f size w v l)(hg:w.grownBy w' row)(hlt:∀ x,v.ownBlock=some x→x<w.heap.size)(hne:∀ x,v.ownBlock=some x→row≠some x):RowOf f size w' v l:=by
 cases row with
 | some g=>exact h.offT hg (fun x hx e=>hne x hx (by rw [e]))
 | none=>exact h.offT (hg.but (some w.heap.size)) (fun x hx=>Nat.ne_of_lt (hlt x hx))
theorem OwnOf.notT {α:Type}{f:α→List Value}{size:Nat}{e e':TypeId}{w:World}{B g:Nat}{v:Value}{l:List α}{cs:List Value}(h:OwnOf f size e w B v l)(hz:Blk e' w g cs)(hne:e≠e'):v.ownBlock≠some g:=by
 rcases h.2 with ⟨rfl,_⟩|⟨g',cap,cur,rfl,_,hg,_⟩
 ·simp [Value.ownBlock]
 ·intro e2
  simp only [Value.ownBlock,Option.some.injEq] at e2
  subst e2
  have hz2:w.heap[g']?=some (.cells cs.toArray e' (0,0)):=hz
  rw [hz2] at hg
  simp only [Option.some.injEq,Obj.cells.injEq] at hg
  exact hne hg.2.1.symm
theorem gsetT (w:World)(b i:Nat)(v:Value):w.grownBy (w.setCell ⟨b,i,none⟩ v) (some b) :=
 ⟨rfl,rfl,rfl,by simp [World.setCell],fun k _ hk=>Below.heap_setCell _ _ _ _ (fun e=>hk (by simp [e]))⟩
theorem wpList_bytesOwn {P:Program}{w:World}{ops:Array Oper}{rest:List Oper}{o:Oper}{a:Act}{Q:Exit→Act→World→Prop}(hgd:o.guard=none)(src dst:TypeId)(x:Operand)
  (ho:o.op=.convert src dst x) {e:TypeId}(hs:P.underlying src=some .string) (hd:P.underlying dst=some (.slice e)) (he:P.underlying e=some (.int .u8)) (l:List UInt8) (hx:a.eval x=str l) (hl:l.length≤maxLen)
  (h:∀ v' w',Bytes w' v' l→(∀ k,v'.ownBlock=some k→w.heap.size≤k∧k<w'.heap.size)→Below w.heap.size w w'→wpList P ops Q rest (a.put o.dst v') w'):wpList P ops Q (o::rest) a w:=by
 refine wpList_plain hgd fun K hK=>?_
 have hr:=Lib.run_convert_string_bytes (P:=P) w src dst e ⟨l.toArray⟩ hs hd he
 have hb:=bytes_of w e l hl
 unfold Oper.wp execOp
 unfold str at hx
 simp only [ho,hx,hr,Sem.run_bind,Result.andThen_ok,Sem.run_pure]
 exact hK _ _ (h _ _ hb.1 (fun k hk=>by simp only [Value.ownBlock,Option.some.injEq] at hk;rw [Lib.bytesWorld_size];omega) hb.2)
def PEncOwn (x:Itm)(w:World)(e:Ending)(w':World):Prop:=∃ v,e=.returned v∧Bytes w' v (encI x)∧(∀ k,v.ownBlock=some k→w.heap.size≤k∧k<w'.heap.size)∧Below w.heap.size w w'
theorem penco_text (ta:Option Addr)(tn tc:Nat)(t:List UInt8)(htn:t.length=tn)(kv:Value)(ks:List Itm)(w:World)(h:Bytes w (.slice ta tn tc) t)(hN:tn≤1000000000000) :
  Calls Tryz.prog 56 #[.agg #[.bool false,.slice ta tn tc,kv]] w (PEncOwn (.mk false (.slice ta tn tc) t kv ks) w):=by
 have hbel1:Below w.heap.size w (w.alloc (.cells #[.bool false,.slice ta tn tc,kv] 77)):=(Below.refl _ _).alloc (Nat.le_refl _) _
 have hs:=run_str (P:=Tryz.prog) (src:=25) (dst:=9) elU8.ht (by kernel_rfl) (by kernel_rfl) (h.below hbel1)
 have hse:(⟨t.toArray⟩:ByteArray).size=tn:=htn
 by_cases h1:tn=1∧(t[0]?.getD 0).toNat<128
 ·obtain ⟨h1,h128⟩:=h1
  obtain ⟨x,rfl⟩:∃ x,t=[x]:=List.length_eq_one_iff.1 (htn.trans h1)
  subst h1
  have hx:(x.toNat:Int)<128:=by simp at h128;omega
  have hE:encI (.mk false (.slice ta 1 tc) [x] kv ks)=[x]:=by
   unfold encI textB
   rw [if_neg (by simp),if_pos (by simp at h128 ⊢;exact h128)]
  have HE:=Lib.hid hE
  have hx0:∀ h,(⟨#[x]⟩:ByteArray)[0]'h=x:=fun _=>rfl
  clear hE htn h128 hse
  go_enter Tryz.func56,Tryz.ntmps56
  go_wp2_with (refine wpList_bytesOwn (o:=⟨some 33,_,_,_,_,_⟩) (by rfl) 9 25 (.tmp 32) (by rfl) (by kernel_rfl) elU8.ht (by kernel_rfl) [x] (by rfl) (by unfold maxLen;simp) ?_;intro v2 w2 h2 h3 b2;have h3:=fun q hq=>And.intro (Nat.le_trans (Below.size hbel1) (h3 q hq).1) (h3 q hq).2;have hbel2:=Below.then hbel1 b2)
  go_ret
  exact ⟨_,rfl,by rw [HE.out];exact h2,h3,hbel2⟩
 ·have hE:encI (.mk false (.slice ta tn tc) t kv ks)=headB 128 tn++t:=by
   unfold encI textB
   rw [if_neg (by simp),if_neg (by rw [htn];exact h1),htn]
  have hhl:=headB_len 128 tn (by omega)
  have ch:∀ x,Calls Tryz.prog 88 #[.int .i64 (tn:Int),.bool false] x _:=fun x=>phead_any tn false (by omega) x
  change ∀ x,Calls Tryz.prog 88 #[.int .i64 (tn:Int),.bool false] x (fun e w'=>e=.returned (str (headB 128 tn))∧Below x.heap.size x w') at ch
  obtain ⟨w1,hw1⟩:∃ w1,w1=w.alloc (.cells #[.bool false,.slice ta tn tc,kv] 77):=⟨_,rfl⟩
  obtain ⟨Hd,hHd⟩:∃ Hd,Hd=headB 128 tn:=⟨_,rfl⟩
  rw [←hHd] at hE hhl
  simp only [←hHd] at ch
  have hadd:=str_add Hd t
  have hll:(Hd++t).length≤2000000000000:=by rw [List.length_append,htn];omega
  have HE:=Lib.hid hE
  have Ch:=Lib.hid ch
  have Hadd:=Lib.hid hadd
  clear hE hw1 ch hHd hadd
  by_cases ht1:tn=1
  ·subst ht1
   obtain ⟨x,rfl⟩:∃ x,t=[x]:=List.length_eq_one_iff.1 htn
   have hx:¬ (x.toNat:Int)<128:=fun hx=>h1 ⟨rfl,by simp;omega⟩
   have hx0:∀ h,(⟨#[x]⟩:ByteArray)[0]'h=x:=fun _=>rfl
   clear htn h1 hse
   go_enter Tryz.func56,Tryz.ntmps56
   go_wp2_with (first
    |(go_at_call 88;refine (Ch.out _).mono ?_;rintro e w3 ⟨rfl,b3⟩;have hbel3:=Below.then hbel1 b3)
    |(refine wpList_bytesOwn (o:=⟨some 41,_,_,_,_,_⟩) (by rfl) 9 25 (.tmp 40) (by rfl) (by kernel_rfl) elU8.ht (by kernel_rfl) (Hd++[x]) Hadd.out (by unfold maxLen;omega) ?_;intro v2 w2 h2 h3 b2;have h3:=fun q hq=>And.intro (Nat.le_trans (Below.size hbel3) (h3 q hq).1) (h3 q hq).2;have hbel2:=Below.then hbel3 b2))
   go_ret
   exact ⟨_,rfl,by rw [HE.out];exact h2,h3,hbel2⟩
  ·have hne:((tn:Int)==1)=false:=by rw [beq_eq_false_iff_ne];omega
   have htl:t.length≤1000000000000:=by omega
   clear h1 ht1
   go_enter Tryz.func56,Tryz.ntmps56
   go_wp2_with (first
    |(go_at_call 88;refine (Ch.out _).mono ?_;rintro e w3 ⟨rfl,b3⟩;have hbel3:=Below.then hbel1 b3)
    |(refine wpList_bytesOwn (o:=⟨some 41,_,_,_,_,_⟩) (by rfl) 9 25 (.tmp 40) (by rfl) (by kernel_rfl) elU8.ht (by kernel_rfl) (Hd++t) Hadd.out (by unfold maxLen;omega) ?_;intro v2 w2 h2 h3 b2;have h3:=fun q hq=>And.intro (Nat.le_trans (Below.size hbel3) (h3 q hq).1) (h3 q hq).2;have hbel2:=Below.then hbel3 b2))
   go_ret
   exact ⟨_,rfl,by rw [HE.out];exact h2,h3,hbel2⟩
theorem penco_list (w0:World)(ta:Option Addr)(tn tc:Nat)(t:List UInt8)(hbt:Bytes w0 (.slice ta tn tc) t)(ka:Option Addr)(kn kc:Nat)(ks:List Itm)(hkn:ks.length=kn)(w:World)(hw0:w0=w)(hk:RowOf icells 3 w (.slice ka kn kc) ks)(hi:∀ k∈ks,IsItm w k)(hN:bulkL ks≤1000000000000)
  (ih:∀ k∈ks,∀ w',IsItm w' k→Calls Tryz.prog 56 #[.agg (icells k).toArray] w' (PEncPost k w')) :
  Calls Tryz.prog 56 #[.agg #[.bool true,.slice ta tn tc,.slice ka kn kc]] w (PEncOwn (.mk true (.slice ta tn tc) t (.slice ka kn kc) ks) w):=by
 subst hw0
 have hbel1:Below w0.heap.size w0 (w0.alloc (.cells #[.bool true,.slice ta tn tc,.slice ka kn kc] 77)):=(Below.refl _ _).alloc (Nat.le_refl _) _
 have hB1:=Blk.new w0 77 [.bool true,.slice ta tn tc,.slice ka kn kc]
 have hsc:=run_str (P:=Tryz.prog) (src:=25) (dst:=9) elU8.ht (by kernel_rfl) (by kernel_rfl) (hbt.below hbel1)
 have hE:encI (.mk true (.slice ta tn tc) t (.slice ka kn kc) ks)=headB 192 (encL ks).length++encL ks:=by
  unfold encI
  rw [if_pos rfl]
 have hll:(encL ks).length≤10000000000000:=by have:=len_encL ks hN;omega
 have hhl:=headB_len 192 (encL ks).length (by omega)
 have hnl:kn≤1000000000000:=by have:=bulk_len ks;omega
 have hle:=fun k=>encL_le ks k
 have hst:=fun k hk=>encL_step ks k hk
 have hall:encL (ks.take kn)=encL ks:=by rw [←hkn,List.take_length]
 have hbk:∀ k,k∈ks→(encI k).length≤10000000000000:=fun k hk=>by
  have h1:=bulk_mem hk
  have:=len_encI (bulkI k) k (Nat.le_refl _) (by omega)
  omega
 have Hkn:=Lib.hid hkn
 have HE:=Lib.hid hE
 have Hle:=Lib.hid hle
 have Hst:=Lib.hid hst
 have Hi:=Lib.hid hi
 have Ih:=Lib.hid ih
 have Hall:=Lib.hid hall
 have Hbk:=Lib.hid hbk
 have Hll:=Lib.hid hll
 have Hhl:=Lib.hid hhl
 clear hkn hE hle hst hi ih hall hbk hll hhl hN
 go_enter Tryz.func56,Tryz.ntmps56
 go_wp2_with fail
 go_loopw [3,14] (fun v ix wr=>∃ k:Nat,k≤kn∧ix=.int .i64 (k:Int)∧v=.string ⟨(encL (ks.take k)).toArray⟩∧Blk 77 wr w0.heap.size [.bool true,.slice ta tn tc,.slice ka kn kc]∧Below w0.heap.size w0 wr) (fun _ ix _=>kn - (intOf ix).toNat)
 case atStart=>exact ⟨0,by omega,rfl,rfl,hB1,hbel1⟩
 case round =>
  clear hbel1 hB1 hsc
  obtain ⟨k,hk',rfl,rfl,hB,hbel⟩:=hrel
  by_cases hlt:k<kn
  ·have hki:(k:Int)<(kn:Int):=by omega
   have hkl:k<ks.length:=by rw [Hkn.out];exact hlt
   obtain ⟨b,off,rfl,hr⟩:=RowOf.range icells_len (hk.below hbel) k hkl
   have hI:IsItm wr ks[k]:=(Hi.out _ (List.getElem_mem hkl)).kept hbel
   have hc:=fun x hx=>Ih.out _ (List.getElem_mem hkl) x hx
   have hs:=Hst.out k hkl
   have hl:=Hle.out k
   have hm:=Hbk.out _ (List.getElem_mem hkl)
   obtain ⟨kid,hkid⟩:∃ x,x=ks[k]:=⟨_,rfl⟩
   rw [←hkid] at hr hI hc hs hm
   obtain ⟨S0,hS0⟩:∃ S0,S0=encL (ks.take k):=⟨_,rfl⟩
   obtain ⟨S1,hS1⟩:∃ S1,S1=encL (ks.take (k+1)):=⟨_,rfl⟩
   rw [←hS0] at hs hl
   rw [←hS1] at hs
   obtain ⟨T,hT⟩:∃ T,T=encI kid:=⟨_,rfl⟩
   unfold PEncPost at hc
   rw [←hT] at hc hs hm
   obtain ⟨l2,tv2,t2,kv2,ks2⟩:=kid
   obtain ⟨ta2,tc2,rfl,_,_⟩:=hI.inv.1.form
   obtain ⟨ka2,kc2,rfl,_,_⟩:=hI.inv.2.1.form
   obtain ⟨tn2,htn2⟩:∃ tn2,tn2=t2.length:=⟨_,rfl⟩
   obtain ⟨kn2,hkn2⟩:∃ kn2,kn2=ks2.length:=⟨_,rfl⟩
   rw [←htn2,←hkn2] at hr hI hc
   change wr.rangeAt b (off+k*3) [.bool l2,.slice ta2 tn2 tc2,.slice ka2 kn2 kc2] at hr
   change ∀ x,IsItm x _→Calls Tryz.prog 56 #[.agg #[.bool l2,.slice ta2 tn2 tc2,.slice ka2 kn2 kc2]] x _ at hc
   have hbs:=hbel.size
   have hbel2:Below w0.heap.size w0 (wr.alloc (.cells #[.bool l2,.slice ta2 tn2 tc2,.slice ka2 kn2 kc2] 77)):=hbel.alloc hbs _
   have hI2:=hI.kept ((Below.refl wr.heap.size wr).alloc (Nat.le_refl _) (.cells #[.bool l2,.slice ta2 tn2 tc2,.slice ka2 kn2 kc2] 77))
   have hB2:=hB.alloc (.cells #[.bool l2,.slice ta2 tn2 tc2,.slice ka2 kn2 kc2] 77)
   have hbb:S0.length+T.length≤30000000000000:=by have:=Hll.out;omega
   have hadd:=str_add S0 T
   rw [←hs,hS1] at hadd
   have Hadd:=Lib.hid hadd
   have Hc:=Lib.hid hc
   clear hs hc hadd hS1 hT hkid hI hl hm htn2 hkn2
   rw [←hS0]
   clear hS0
   go_wp2_with (first
    |(refine wpList_load_mid (op:=⟨some 17,_,_,_,_,_⟩) (by rfl) 77 (.tmp 16) (by rfl) b (off+k*3) (by rfl) [.bool l2,.slice ta2 tn2 tc2,.slice ka2 kn2 kc2] _ hr Tryz.underlying77 rfl (by kernel_rfl) ?_)
    |(go_at_call 56;(with_reducible refine (Hc.out _ hI2).mono ?_);rintro e w3 ⟨v3,rfl,o3,b3⟩;have hbel3:=Below.then hbel2 b3;have hB3:=hB2.kept b3;have hsc:=run_str (P:=Tryz.prog) (src:=25) (dst:=9) elU8.ht (by kernel_rfl) (by kernel_rfl) o3))
   go_roundw
   case rel=>exact ⟨k+1,by omega,by go_num,Hadd.out,hB3,hbel3⟩
   case measure=>simp [intOf];omega
  ·obtain rfl:k=kn:=by omega
   rw [Hall.out]
   have hN2:(encL ks).length≤10000000000000:=by have:=Hll.out;omega
   obtain ⟨S,hS⟩:∃ S,S=encL ks:=⟨_,rfl⟩
   have hhl:=Hhl.out
   have hE:=HE.out
   rw [←hS] at hhl hE hN2
   rw [←hS]
   obtain ⟨sn,hsn⟩:∃ sn,sn=S.length:=⟨_,rfl⟩
   rw [←hsn] at hhl hE
   have ch:∀ x,Calls Tryz.prog 88 #[.int .i64 ((S.length:Nat):Int),.bool true] x _:=fun x=>phead_any S.length true (by omega) x
   change ∀ x,Calls Tryz.prog 88 #[.int .i64 ((S.length:Nat):Int),.bool true] x (fun e w'=>e=.returned (str (headB 192 S.length))∧Below x.heap.size x w') at ch
   rw [hsn] at hE hhl
   obtain ⟨Hd,hHd⟩:∃ Hd,Hd=headB 192 S.length:=⟨_,rfl⟩
   rw [←hHd] at hhl hE
   simp only [←hHd] at ch
   have hadd:=str_add Hd S
   have hll:(Hd++S).length≤20000000000000:=by rw [List.length_append];omega
   have Ch:=Lib.hid ch
   have HE2:=Lib.hid hE
   have Hadd:=Lib.hid hadd
   clear ch hE hsn hHd hS hadd
   have hbs:=hbel.size
   have hc0:=hB.cell 0
   have hc0':wr.cell? ⟨w0.heap.size,0,none⟩=some (.bool true):=hc0
   clear hc0
   go_wp2_with (first
    |(go_at_call 88;(with_reducible refine (Ch.out _).mono ?_);rintro e w3 ⟨rfl,b3⟩;have hbel3:=Below.then hbel b3)
    |(refine wpList_bytesOwn (o:=⟨some 41,_,_,_,_,_⟩) (by rfl) 9 25 (.tmp 40) (by rfl) (by kernel_rfl) elU8.ht (by kernel_rfl) (Hd++S) Hadd.out (by unfold maxLen;omega) ?_;intro v2 w2 h2 h3 b2;have h3:=fun q hq=>And.intro (Nat.le_trans (Below.size hbel3) (h3 q hq).1) (h3 q hq).2;have hbel2:=Below.then hbel3 b2))
   go_ret
   exact ⟨_,rfl,by rw [HE2.out];exact h2,h3,hbel2⟩
theorem pencode_own (n:Nat)(x:Itm)(w:World)(h:bulkI x≤n)(hn:n≤1000000000000)(hI:IsItm w x):Calls Tryz.prog 56 #[.agg (icells x).toArray] w (PEncOwn x w):=by
 obtain ⟨l,tv,t,kv,ks⟩:=x
 obtain ⟨h1,h2,h3⟩:=hI.inv
 obtain ⟨ta,tc,rfl,_,_⟩:=h1.form
 obtain ⟨ka,kc,rfl,_,_⟩:=h2.form
 unfold bulkI at h
 cases l with
 | false=>exact penco_text ta t.length tc t rfl _ ks w h1 (by omega)
 | true=>exact penco_list w ta t.length tc t h1 ka ks.length kc ks rfl w rfl h2 h3 (by omega) (fun k hk w' hI'=>pencode_any n k w' (by have:=bulk_mem hk;omega) (by omega) hI')
def CodeOwn (ok:Bool)(B:List UInt8)(w:World)(e:Ending)(w':World):Prop :=
 ∃ v,e=.returned (.tuple #[v,.int .i64 (if ok=true then 0 else 1)])∧Bytes w' v (if ok=true then B else [])∧(∀ k,v.ownBlock=some k→w.heap.size≤k∧k<w'.heap.size)∧Below w.heap.size w w'∧(if ok=true then B else []).length≤1000000000
theorem code_own (kd:Int)(pa va ka:Option Addr)(pn pc vn vc kn kc:Nat)(p v:List UInt8)(ps:List (Value × List UInt8))(hpn:p.length=pn)(hvn:v.length=vn)(hkn:ps.length=kn)(w:World)(hp:Bytes w (.slice pa pn pc) p)(hv:Bytes w (.slice va vn vc) v)(hk:Texts w (.slice ka kn kc) ps)(hP:pn≤4194304)(hV:vn≤1048576)(hK:kn≤1048576)(hKs:∀ q∈ps,q.2.length≤1048576) :
  Calls Tryz.prog 130 #[.agg #[.int .i64 kd,.slice pa pn pc,.slice va vn vc,.slice ka kn kc]] w (CodeOwn (shOk kd p v (ps.map (·.2))) (shB kd p v (ps.map (·.2))) w):=by
 have hs1:=Blk.new w 133 [.int .i64 kd,.slice pa pn pc,.slice va vn vc,.slice ka kn kc]
 have hbel1:Below w.heap.size w (w.alloc (.cells #[.int .i64 kd,.slice pa pn pc,.slice va vn vc,.slice ka kn kc] 133)):=(Below.refl _ _).alloc (Nat.le_refl _) _
 have ci:=fun x hb=>item_any kd pa va ka pn pc vn vc kn kc p v ps hpn hvn hkn x (hp.below hb) (hv.below hb) (hk.below hb) hP hV hK hKs
 obtain ⟨ok,hok⟩:∃ ok,ok=shOk kd p v (ps.map (·.2)):=⟨_,rfl⟩
 obtain ⟨B,hB⟩:∃ B,B=shB kd p v (ps.map (·.2)):=⟨_,rfl⟩
 simp only [←hok,←hB] at ci
 rw [←hok,←hB]
 have Ci:=Lib.hid ci
 clear ci hok hB hpn hvn hkn hKs hp hv hk
 cases ok with
 | false =>
  go_enter Tryz.func130,Tryz.ntmps130
  go_wp2_with (first
   |(refine wpList_loadA (o:=⟨some 7,_,_,_,_,_⟩) (by rfl) 133 (.tmp 1) (by rfl) w.heap.size (by rfl) aggShape hs1 (by rfl) ?_)
   |(go_at_call 126;refine (Ci.out _ hbel1).mono ?_;rintro e w3 ⟨il,ta,tn,tc,t,ka',kn',kc',ks,rfl,hI,b3⟩;have hbel3:=Below.then hbel1 b3;have hbel4:=hbel3.alloc hbel3.size (.cells #[.bool il,.slice ta tn tc,.slice ka' kn' kc'] 77)))
  go_ret2
  exact ⟨_,rfl,RowOf.nil b8 1 _,fun q hq=>by simp [Value.ownBlock] at hq,hbel4,by simp⟩
 | true =>
  go_enter Tryz.func130,Tryz.ntmps130
  go_wp2_with (first
   |(refine wpList_loadA (o:=⟨some 7,_,_,_,_,_⟩) (by rfl) 133 (.tmp 1) (by rfl) w.heap.size (by rfl) aggShape hs1 (by rfl) ?_)
   |(go_at_call 126;refine (Ci.out _ hbel1).mono ?_;rintro e w3 ⟨il,ta,tn,tc,t,ka',kn',kc',ks,rfl,hI,b3⟩;have hbel3:=Below.then hbel1 b3;have hbel4:=hbel3.alloc hbel3.size (.cells #[.bool il,.slice ta tn tc,.slice ka' kn' kc'] 77);obtain ⟨hI1,hI2,hI3⟩:=hI rfl;have hI4:=hI1.kept ((Below.refl w3.heap.size w3).alloc (Nat.le_refl _) (.cells #[.bool il,.slice ta tn tc,.slice ka' kn' kc'] 77));have HI2:=Lib.hid hI2;have HL:=Lib.hid (show B.length≤1000000000 by rw [←hI2];have:=len_encI 100000000 _ hI3 (by omega);omega);clear hI hI1 hI2)
   |(go_at_call 47;refine (encode_any _ (.mk il (.slice ta tn tc) t (.slice ka' kn' kc') ks) _ hI3 (by omega) hI4).mono ?_;rintro e w5 ⟨v5,rfl,o5,b5⟩;have hbel5:=Below.then hbel4 b5))
  go_ret2
  exact ⟨_,rfl,by rw [←HI2.out];exact o5.row,fun q hq=>⟨Nat.le_trans (Below.size hbel4) (OwnOf.lt o5 q hq),OwnOf.ltT o5 q hq⟩,hbel5,HL.out⟩
theorem hcode_own (kd:Int)(pa va ka:Option Addr)(pn pc vn vc kn kc:Nat)(p v:List UInt8)(ps:List (Value × List UInt8))(hpn:p.length=pn)(hvn:v.length=vn)(hkn:ps.length=kn)(w:World)(hp:Bytes w (.slice pa pn pc) p)(hv:Bytes w (.slice va vn vc) v)(hk:Texts w (.slice ka kn kc) ps)(hP:pn≤4194304)(hV:vn≤1048576)(hK:kn≤1048576)(hKs:∀ q∈ps,q.2.length≤1048576) :
  Calls Tryz.prog 136 #[.agg #[.int .i64 kd,.slice pa pn pc,.slice va vn vc,.slice ka kn kc]] w (CodeOwn (shOk kd p v (ps.map (·.2))) (shB kd p v (ps.map (·.2))) w):=by
 have hs1:=Blk.new w 133 [.int .i64 kd,.slice pa pn pc,.slice va vn vc,.slice ka kn kc]
 have hbel1:Below w.heap.size w (w.alloc (.cells #[.int .i64 kd,.slice pa pn pc,.slice va vn vc,.slice ka kn kc] 133)):=(Below.refl _ _).alloc (Nat.le_refl _) _
 have ci:=fun x hb=>sitem_any kd pa va ka pn pc vn vc kn kc p v ps hpn hvn hkn x (hp.below hb) (hv.below hb) (hk.below hb) hP hV hK hKs
 obtain ⟨ok,hok⟩:∃ ok,ok=shOk kd p v (ps.map (·.2)):=⟨_,rfl⟩
 obtain ⟨B,hB⟩:∃ B,B=shB kd p v (ps.map (·.2)):=⟨_,rfl⟩
 simp only [←hok,←hB] at ci
 rw [←hok,←hB]
 have Ci:=Lib.hid ci
 clear ci hok hB hpn hvn hkn hKs hp hv hk
 cases ok with
 | false =>
  go_enter Tryz.func136,Tryz.ntmps136
  go_wp2_with (first
   |(refine wpList_loadA (o:=⟨some 7,_,_,_,_,_⟩) (by rfl) 133 (.tmp 1) (by rfl) w.heap.size (by rfl) aggShape hs1 (by rfl) ?_)
   |(go_at_call 160;refine (Ci.out _ hbel1).mono ?_;rintro e w3 ⟨il,ta,tn,tc,t,ka',kn',kc',ks,rfl,hI,b3⟩;have hbel3:=Below.then hbel1 b3;have hbel4:=hbel3.alloc hbel3.size (.cells #[.bool il,.slice ta tn tc,.slice ka' kn' kc'] 77)))
  go_ret2
  exact ⟨_,rfl,RowOf.nil b8 1 _,fun q hq=>by simp [Value.ownBlock] at hq,hbel4,by simp⟩
 | true =>
  go_enter Tryz.func136,Tryz.ntmps136
  go_wp2_with (first
   |(refine wpList_loadA (o:=⟨some 7,_,_,_,_,_⟩) (by rfl) 133 (.tmp 1) (by rfl) w.heap.size (by rfl) aggShape hs1 (by rfl) ?_)
   |(go_at_call 160;refine (Ci.out _ hbel1).mono ?_;rintro e w3 ⟨il,ta,tn,tc,t,ka',kn',kc',ks,rfl,hI,b3⟩;have hbel3:=Below.then hbel1 b3;have hbel4:=hbel3.alloc hbel3.size (.cells #[.bool il,.slice ta tn tc,.slice ka' kn' kc'] 77);obtain ⟨hI1,hI2,hI3⟩:=hI rfl;have hI4:=hI1.kept ((Below.refl w3.heap.size w3).alloc (Nat.le_refl _) (.cells #[.bool il,.slice ta tn tc,.slice ka' kn' kc'] 77));have HI2:=Lib.hid hI2;have HL:=Lib.hid (show B.length≤1000000000 by rw [←hI2];have:=len_encI 100000000 _ hI3 (by omega);omega);clear hI hI1 hI2)
   |(go_at_call 56;refine (pencode_own _ (.mk il (.slice ta tn tc) t (.slice ka' kn' kc') ks) _ hI3 (by omega) hI4).mono ?_;rintro e w5 ⟨v5,rfl,o5,f5,b5⟩;have hbel5:=Below.then hbel4 b5))
  go_ret2
  exact ⟨_,rfl,by rw [←HI2.out];exact o5,fun q hq=>⟨Nat.le_trans (Below.size hbel4) (f5 q hq).1,(f5 q hq).2⟩,hbel5,HL.out⟩
mutual
def cdN:Nd→List UInt8
 | .mk kd _ p _ v _ ks=>if shOk kd p v (if kd=1 then [] else smN ks)=true then shB kd p v (if kd=1 then [] else smN ks) else []
def smN:List Nd→List (List UInt8)
 | []=>[]
 | k::ks=>(if k.kd=0 then [] else sumB (cdN k))::smN ks
end
mutual
def alN:Nd→List (List UInt8)
 | .mk kd pv p vv v kv ks=>cdN (.mk kd pv p vv v kv ks)::(if kd=1 then [] else alL ks)
def alL:List Nd→List (List UInt8)
 | []=>[]
 | k::ks=>(if k.kd=0 then [] else alN k)++alL ks
end
theorem smN_len:∀ (ks:List Nd),(smN ks).length=ks.length
 | []=>by rw [smN];rfl
 | k::ks=>by rw [smN,List.length_cons,List.length_cons,smN_len ks]
theorem shOk_leaf (p v:List UInt8)(s s':List (List UInt8)):shOk 1 p v s=shOk 1 p v s':=by simp [shOk]
theorem shB_leaf (p v:List UInt8)(s s':List (List UInt8)):shB 1 p v s=shB 1 p v s':=by simp [shB]
theorem smN_snoc:∀ (ks:List Nd)(k:Nd),smN (ks++[k])=smN ks++[if k.kd=0 then [] else sumB (cdN k)]
 | [],k=>by rw [List.nil_append,smN,smN];rfl
 | x::ks,k=>by rw [List.cons_append,smN,smN,smN_snoc ks k,List.cons_append]
theorem alL_snoc:∀ (ks:List Nd)(k:Nd),alL (ks++[k])=alL ks++(if k.kd=0 then [] else alN k)
 | [],k=>by rw [List.nil_append,alL];simp only [alL,List.append_nil,List.nil_append]
 | x::ks,k=>by rw [List.cons_append,alL,alL,alL_snoc ks k,List.append_assoc]
theorem alN_ne (t:Nd):∃ l,alN t=cdN t::l:=by
 cases t with
 | mk kd pv p vv v kv ks=>exact ⟨_,by rw [alN]⟩
def TcPost (B:List (List UInt8))(w:World)(e:Ending)(w':World):Prop:=∃ v ps,e=.returned v∧OwnOf tcell 1 25 w' w.heap.size v ps ∧
 (∀ q∈ps,Bytes w' q.1 q.2∧q.2.length≤1000000000∧∀ k,q.1.ownBlock=some k→w.heap.size≤k∧k<w'.heap.size∧v.ownBlock≠some k)∧ps.map (·.2)=B∧Below w.heap.size w w'
structure TxG (w:World)(kv rv:Value)(u:World)(q:Value × List UInt8):Prop where
 h:Bytes u q.1 q.2
 l:q.2.length≤1000000000
 b:∀ k,q.1.ownBlock=some k→w.heap.size+2≤k∧k<u.heap.size∧kv.ownBlock≠some k∧rv.ownBlock≠some k
section
variable {w:World} {N4:List Value} {kd:Int} {P V kv kv' rv rv':Value} {sums rest sums' rest':List (Value × List UInt8)} {u u':World}
theorem TxG.set {q:Value × List UInt8}(h:TxG w kv rv u q)(i:Nat)(v:Value):TxG w kv rv (u.setCell ⟨w.heap.size+1,i,none⟩ v) q :=
 ⟨RowOf.grownT h.h (gsetT u _ i v) (fun k hk=>(h.b k hk).2.1) (fun k hk e=>by have:=(h.b k hk).1;simp only [Option.some.injEq] at e;omega),h.l,fun k hk=>by have:=h.b k hk;simpa only [World.size_setCell] using this⟩
end
inductive OkN:Nd→Prop where
 | leaf (pv:Value) (p:List UInt8) (vv:Value) (v:List UInt8) (kv:Value) (ks:List Nd):OkN (.mk 1 pv p vv v kv ks)
 | inner (kd:Int) (pv:Value) (p:List UInt8) (vv:Value) (v:List UInt8) (kv:Value) (ks:List Nd) (hk:kd=2∨kd=3) (h:∀ k∈ks,k.kd≠0→OkN k):OkN (.mk kd pv p vv v kv ks)
mutual
theorem rgt_ok:∀ (d:Nat)(t:Nd),rgt d t=true→t.kd≠0→OkN t
 | d,.mk kd pv p vv v kv ks,h,hne=>by
  unfold rgt at h
  by_cases h0:kd=0
  ·exact absurd h0 hne
  ·rw [if_neg h0] at h
   by_cases h1:kd=1
   ·subst h1;exact .leaf ..
   ·rw [if_neg h1] at h
    by_cases h2:kd=2
    ·rw [if_pos h2] at h
     simp only [Bool.and_eq_true] at h
     exact .inner kd pv p vv v kv ks (.inl h2) (rgtL_ok _ ks h.2)
    ·rw [if_neg h2] at h
     by_cases h3:kd=3
     ·rw [if_pos h3] at h
      simp only [Bool.and_eq_true] at h
      exact .inner kd pv p vv v kv ks (.inr h3) (rgtL_ok _ ks h.1.2)
     ·rw [if_neg h3] at h;cases h
theorem rgtL_ok:∀ (d:Nat)(ks:List Nd),rgtL d ks=true→∀ k∈ks,k.kd≠0→OkN k
 | _,[],_,k,hk,_=>by simp at hk
 | d,x::ks,h,k,hk,hne=>by
  unfold rgtL at h
  rw [Bool.and_eq_true] at h
  rcases List.mem_cons.1 hk with hk|hk
  ·rw [hk] at hne ⊢;exact rgt_ok d x h.1 hne
  ·exact rgtL_ok d ks h.2 k hk hne
end
inductive FnN:Nd→Prop where
 | mk (kd:Int) (pv:Value) (p:List UInt8) (vv:Value) (v:List UInt8) (kv:Value) (ks:List Nd) (hp:p.length≤1048576) (hv:v.length≤1048576) (hk:ks.length≤1048576) (h:∀ k∈ks,FnN k):FnN (.mk kd pv p vv v kv ks)
theorem FnN.inv {kd:Int}{pv:Value}{p:List UInt8}{vv:Value}{v:List UInt8}{kv:Value}{ks:List Nd}(h:FnN (.mk kd pv p vv v kv ks)):p.length≤1048576∧v.length≤1048576∧ks.length≤1048576∧∀ k∈ks,FnN k:=by
 cases h with
 | mk _ _ _ _ _ _ _ hp hv hk h=>exact ⟨hp,hv,hk,h⟩
theorem fn_bulk:∀ (n:Nat)(t:Nd),SizeOf.sizeOf t≤n→bulkN t≤1048576→FnN t
 | 0,.mk kd pv p vv v kv ks,h,_=>by simp at h
 | n+1,.mk kd pv p vv v kv ks,h,hb=>by
  simp only [bulkN] at hb
  have hkl:=bulkN_len ks
  exact .mk _ _ _ _ _ _ _ (by omega) (by omega) (by omega) (fun k hk=>fn_bulk n k (by
   have:=List.sizeOf_lt_of_mem hk
   simp only [Nd.mk.sizeOf_spec] at h
   omega) (by have:=bulkN_mem hk;omega))
structure But2 (g:Nat)(v:Value)(w w':World):Prop where
 os:w'.os=w.os
 tape:w'.tape=w.tape
 output:w'.output=w.output
 size:w.heap.size≤w'.heap.size
 block:∀ k,k<w.heap.size→k≠g→v.ownBlock≠some k→w'.heap[k]?=w.heap[k]?
theorem But2.refl (g:Nat)(v:Value)(w:World):But2 g v w w:=⟨rfl,rfl,rfl,Nat.le_refl _,fun _ _ _ _=>rfl⟩
theorem But2.trans {g:Nat}{v v':Value}{w u u':World}(h:But2 g v w u)(hv:∀ k,v'.ownBlock=some k→v.ownBlock=some k∨w.heap.size≤k)(h':But2 g v' u u'):But2 g v w u' :=
 ⟨h'.os.trans h.os,h'.tape.trans h.tape,h'.output.trans h.output,Nat.le_trans h.size h'.size,fun k hk h1 h2 =>
  (h'.block k (Nat.lt_of_lt_of_le hk h.size) h1 (fun e=>(hv k e).elim h2 (fun h3=>by omega))).trans (h.block k hk h1 h2)⟩
theorem But2.kept {g:Nat}{v:Value}{w u u':World}(h:But2 g v w u)(hb:Below u.heap.size u u'):But2 g v w u' :=
 ⟨hb.os.trans h.os,hb.tape.trans h.tape,hb.output.trans h.output,Nat.le_trans h.size hb.size,fun k hk h1 h2=>(hb.block k (Nat.lt_of_lt_of_le hk h.size)).trans (h.block k hk h1 h2)⟩
theorem But2.grown {g:Nat}{v:Value}{w u u':World}{row:Option Nat}(h:But2 g v w u)(hg:u.grownBy u' row)(hr:∀ k,row=some k→k=g∨v.ownBlock=some k∨w.heap.size≤k):But2 g v w u' :=
 ⟨hg.os.trans h.os,hg.tape.trans h.tape,hg.output.trans h.output,Nat.le_trans h.size hg.size,fun k hk h1 h2 =>
  (hg.block k (Nat.lt_of_lt_of_le hk h.size) (fun e=>(hr k e.symm).elim h1 (fun h3=>h3.elim h2 (fun h3=>by omega)))).trans (h.block k hk h1 h2)⟩
theorem But2.below {g B:Nat}{v:Value}{w u:World}(h:But2 g v w u)(hB:B≤w.heap.size)(hg:B≤g)(hv:∀ k,v.ownBlock=some k→B≤k):Below B w u :=
 ⟨h.os,h.tape,h.output,h.size,fun k hk=>h.block k (by omega) (by omega) (fun e=>by have:=hv k e;omega)⟩
theorem Blk.but {e:TypeId}{w w':World}{g k:Nat}{v:Value}{cs:List Value}(h:Blk e w k cs)(hb:But2 g v w w')(h1:k≠g)(h2:v.ownBlock≠some k):Blk e w' k cs:=(hb.block k h.lt h1 h2).trans h
theorem RowOf.but {α:Type}{f:α→List Value}{size:Nat}{w w':World}{g:Nat}{v a:Value}{l:List α}(h:RowOf f size w a l)(hb:But2 g v w w')(h1:a.ownBlock≠some g)(h2:∀ x,a.ownBlock=some x→v.ownBlock≠some x):RowOf f size w' a l:=by
 obtain ⟨h0,a,c,rfl,k1,k2,h3⟩:=h
 refine ⟨h0,a,c,rfl,k1,k2,?_⟩
 rcases h3 with h3|⟨b,off,s,rfl,hs,h3⟩
 ·exact .inl h3
 ·refine .inr ⟨b,off,s,rfl,hs,fun j u hu=>?_⟩
  have hc:=h3 j u hu
  rw [World.cell?_of_block (w:=w) (hb.block b (World.block_lt_of_cell? w _ hc) (fun e=>h1 (by rw [←e];rfl)) (h2 b rfl))];exact hc
theorem OwnOf.but {α:Type}{f:α→List Value}{size:Nat}{e:TypeId}{w w':World}{g B:Nat}{v a:Value}{l:List α}(h:OwnOf f size e w B a l)(hb:But2 g v w w')(h1:a.ownBlock≠some g)(h2:∀ x,a.ownBlock=some x→v.ownBlock≠some x):OwnOf f size e w' B a l:=by
 refine ⟨h.1,?_⟩
 rcases h.2 with h3|⟨q,cap,cur,rfl,h3,h4,h5⟩
 ·exact .inl h3
 ·exact .inr ⟨q,cap,cur,rfl,h3,(hb.block q (Array.getElem?_eq_some_iff.1 h4).1 (fun e=>h1 (by rw [←e];rfl)) (h2 q rfl)).trans h4,h5⟩
end Go.Proofs.YtcgpjceopnfahaaGreat
