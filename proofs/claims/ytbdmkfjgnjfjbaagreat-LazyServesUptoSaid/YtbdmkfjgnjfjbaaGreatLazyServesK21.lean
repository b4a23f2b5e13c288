/- Items as data; the heads of what they are written as. | Items as data: what they are written as. | pack.Text, pack.List and the reference's. | pack.Encode. -/
import Derived.Test.YtbdmkfjgnjfjbaaGreatLazyServesK01
import Derived.Test.YtbdmkfjgnjfjbaaGreatLazyServesK20
set_option linter.unusedSimpArgs false
set_option linter.unusedVariables false
set_option maxHeartbeats 4000000
set_option maxRecDepth 100000
namespace Go.Proofs.YtbdmkfjgnjfjbaaGreat
open Go.RowKit
def headB (base n:Nat):List UInt8:=if n<48 then [UInt8.ofNat (base+n)] else UInt8.ofNat (base+48+((numB n).length - 1))::numB n
theorem Qew (l:List UInt8):∃ k,l=List.replicate k 0++bare l:=by
 induction l with
 | nil=>exact ⟨0,rfl⟩
 | cons x l ih =>
  by_cases h:x=0
  ·obtain ⟨k,hk⟩:=ih
   refine ⟨k+1,?_⟩
   rw [h,Q24,List.replicate_succ,List.cons_append,←hk]
  ·exact ⟨0,by rw [Q25 x l h];rfl⟩
theorem Qgz (l:List UInt8):numL (bare l)=numL l:=by
 obtain ⟨k,hk⟩:=Qew l
 rw [hk,Qjs]
 rw [Qkm,Qig _ (Qam l)]
theorem Qlg (l:List UInt8)(h:l.head?≠some 0)(hl:l≠[]):256 ^ (l.length - 1)≤numL l:=by
 cases l with
 | nil=>exact absurd rfl hl
 | cons x l =>
  have hx:1≤x.toNat:=by
   have:x≠0:=by simpa using h
   rcases Nat.eq_zero_or_pos x.toNat with h0|h0
   ·exact absurd (UInt8.toNat_inj.1 (by rw [h0];rfl)) this
   ·exact h0
  simp only [numL,List.length_cons,Nat.add_sub_cancel]
  have:1*256 ^ l.length≤x.toNat*256 ^ l.length:=Nat.mul_le_mul_right _ hx
  omega
theorem Qd3 (N:Nat)(h:N<W256):numL (numB N)=N:=by unfold numB;rw [Qgz,Qbe N h]
theorem Qjt (N k:Nat)(h:N<256 ^ k)(hW:N<W256):(numB N).length≤k:=by
 by_cases hn:numB N=[]
 ·rw [hn];simp
 ·have h1:=Qlg (numB N) (Qam _) hn
  rw [Qd3 N hW] at h1
  rcases Nat.lt_or_ge k (numB N).length with h2|h2
  ·have:(256:Nat) ^ k≤256 ^ ((numB N).length - 1):=Nat.pow_le_pow_right (by omega) (by omega)
   omega
  ·exact h2
theorem Qd2 (N:Nat)(h:0<N)(hW:N<W256):1≤(numB N).length:=by
 rcases Nat.eq_zero_or_pos (numB N).length with h0|h0
 ·have:=Qd3 N hW
  rw [List.eq_nil_of_length_eq_zero h0] at this
  simp [numL] at this;omega
 ·exact h0
theorem numB_8 (n:Nat)(h:n<18446744073709551616):(numB n).length≤8 :=
 Qjt n 8 (by rw [show (256:Nat) ^ 8=18446744073709551616 from rfl];exact h) (by unfold W256;omega)
theorem Q21 (base n:Nat)(h:n<18446744073709551616):(headB base n).length≤9:=by
 unfold headB
 split
 ·simp
 ·have:=numB_8 n h;simp;omega
theorem Qdd (base n:Nat)(hb:base≤192)(hn:n≤4611686018427387904)(w:World) :
  Calls Tryz.prog 87 #[.int .u8 (base:Int),.int .i64 (n:Int)] w fun e w'=>∃ v,e=.returned v∧OwnOf b8 1 5 w' w.heap.size v (headB base n)∧Below w.heap.size w w':=by
 by_cases h48:n<48
 ·have hni:(n:Int)<48:=by omega
  have w1:IntKind.u8.wrap (n:Int)=(n:Int):=IntWalk.u8_in _ (by omega)
  have w2:IntKind.u8.wrap ((base:Int)+(n:Int))=(base:Int)+(n:Int):=IntWalk.u8_in _ (by omega)
  have hH:headB base n=[UInt8.ofNat (base+n)]:=by unfold headB;rw [if_pos h48]
  have hx:u8v (UInt8.ofNat (base+n))=.int .u8 ((base:Int)+(n:Int)):=by unfold u8v;rw [UInt8.toNat_ofNat',Nat.mod_eq_of_lt (by omega)];simp
  have HH:=Qhd hH
  have Hx:=Qhd hx
  clear hH hx
  go_enter Tryz.func87,Tryz.ntmps87
  go_wp2
  go_ret
  refine ⟨_,rfl,OwnOf.made b8 1 _ w w.heap.size _ _ 1 ?_ (by rw [HH.out];rfl) (by simp) (Nat.le_refl _) (by unfold maxLen;omega),Qba _ _⟩
  rw [HH.out,Q13,List.map_cons,Hx.out];rfl
 ·have hni:¬ (n:Int)<48:=by omega
  have hL8:=numB_8 n (by omega)
  have hL1:=Qd2 n (by omega) (by unfold W256;omega)
  have hH:headB base n=[UInt8.ofNat (base+48+((numB n).length - 1))]++numB n:=by unfold headB;rw [if_neg h48];rfl
  have hx:u8v (UInt8.ofNat (base+48+((numB n).length - 1)))=.int .u8 ((base:Int)+48+(((numB n).length:Int) - 1)):=by unfold u8v;rw [UInt8.toNat_ofNat',Nat.mod_eq_of_lt (by omega)];congr 1;omega
  have cn:=fun w=>Q8j n w
  have ci:=fun w=>Qhn n (by omega) w
  obtain ⟨B,hB⟩:∃ B,B=numB n:=⟨_,rfl⟩
  rw [←hB] at hL8 hL1 hH hx
  simp only [←hB] at cn
  obtain ⟨L,hL⟩:∃ L,L=B.length:=⟨_,rfl⟩
  rw [←hL] at hL8 hL1 hH hx
  obtain ⟨X,hX⟩:∃ X,X=UInt8.ofNat (base+48+(L - 1)):=⟨_,rfl⟩
  rw [←hX] at hH hx
  obtain ⟨xi,hxi⟩:∃ xi:Int,xi=(base:Int)+48+((L:Int) - 1):=⟨_,rfl⟩
  have w0:IntKind.u64.wrap (n:Int)=(n:Int):=IntWalk.u64_in _ (by omega)
  have w1:IntKind.u8.wrap ((base:Int)+48)=(base:Int)+48:=IntWalk.u8_in _ (by omega)
  have w2:IntKind.i64.wrap ((L:Int) - 1)=(L:Int) - 1:=IntWalk.i64_in _ (by omega)
  have w3:IntKind.u8.wrap ((L:Int) - 1)=(L:Int) - 1:=IntWalk.u8_in _ (by omega)
  have w4:IntKind.u8.wrap ((base:Int)+48+((L:Int) - 1))=xi:=by rw [hxi];exact IntWalk.u8_in _ (by omega)
  rw [←hxi] at hx
  have HH:=Qhd hH
  have Hx:=Qhd hx
  have HL:=Qhd hL
  have Cn:=Qhd cn
  have Ci:=Qhd ci
  clear hH hx hB hL hX hxi cn ci
  go_enter Tryz.func87,Tryz.ntmps87
  go_wp2_with (first
   |(go_at_call 51;(with_reducible refine (Ci.out _).mono ?_);rintro e w1 ⟨rfl,b1⟩)
   |(go_at_call 50;(with_reducible refine (Cn.out _).mono ?_);rintro e w2 ⟨v,rfl,o2,b2⟩;have b12:=Below.then b1 b2;have hs2:=b1.size;obtain ⟨a2,c2,rfl,_⟩:=o2.form' L HL.out.symm)
   |(refine Q1o (o:=⟨some 24,_,_,_,_,_⟩) (by rfl) (.tmp 23) 25 (by rfl) elU8 (.int .u8 xi) [.int .u8 xi] (by rfl) (by rfl) rfl (by omega) ?_;have o3:=OwnOf.made b8 1 5 w2 w.heap.size [X] #[.int .u8 xi] 1 (by rw [Q13,List.map_cons,Hx.out];rfl) rfl rfl b12.size (by unfold maxLen;omega);have o4:=o2.row.alloc (.cells #[.int .u8 xi] 5);have b4:=b12.alloc b12.size (.cells #[.int .u8 xi] 5))
   |(refine Q0m (o:=⟨some 26,_,_,_,_,_⟩) (by rfl) (.tmp 24) (.tmp 25) 25 (by rfl) elU8 (by rfl) o3 (by rfl) o4 (by have:=b12.size;simp;omega) (by rw [←HL.out];simp;omega) (by rw [←HL.out];unfold maxLen;simp;omega) ?_;intro v5 w5 o5 g5 _;have b5:=b4.grown g5 b4.size (fun j hj=>by cases hj;exact b12.size)))
  go_ret
  exact ⟨_,rfl,by rw [HH.out];exact o5,b5⟩
inductive Itm where
 | mk (l:Bool) (tv:Value) (t:List UInt8) (kv:Value) (ks:List Itm)
def icells:Itm→List Value
 | .mk l tv _ kv _=>[.bool l,tv,kv]
theorem Q0a:Agg Tryz.prog 77 3:=⟨_,Tryz.underlying77,rfl,by kernel_rfl⟩
theorem Q0p (x:Itm):(icells x).length=3:=by cases x;rfl
inductive IsItm (w:World):Itm→Prop where
 | mk (l:Bool) (tv:Value) (t:List UInt8) (kv:Value) (ks:List Itm) (ht:Bytes w tv t) (hk:RowOf icells 3 w kv ks) (h:∀ k∈ks,IsItm w k):IsItm w (.mk l tv t kv ks)
theorem IsItm.kept {w w':World}{x:Itm}(h:IsItm w x)(hb:Below w.heap.size w w'):IsItm w' x:=by
 induction h with
 | mk l tv t kv ks ht hk _ ih=>exact .mk l tv t kv ks (ht.kept hb) (hk.kept hb) ih
theorem IsItm.inv {w:World}{l:Bool}{tv:Value}{t:List UInt8}{kv:Value}{ks:List Itm}(h:IsItm w (.mk l tv t kv ks)):Bytes w tv t∧RowOf icells 3 w kv ks∧∀ k∈ks,IsItm w k:=by
 cases h with
 | mk _ _ _ _ _ ht hk h=>exact ⟨ht,hk,h⟩
def textB (t:List UInt8):List UInt8:=if t.length=1∧(t[0]?.getD 0).toNat<128 then t else headB 128 t.length++t
mutual
def encI:Itm→List UInt8
 | .mk l _ t _ ks=>if l=true then headB 192 (encL ks).length++encL ks else textB t
def encL:List Itm→List UInt8
 | []=>[]
 | k::ks=>encI k++encL ks
end
mutual
def bulkI:Itm→Nat
 | .mk _ _ t _ ks=>1+t.length+bulkL ks
def bulkL:List Itm→Nat
 | []=>0
 | k::ks=>bulkI k+bulkL ks
end
theorem Qdh (l m:List Itm):encL (l++m)=encL l++encL m:=by
 induction l with
 | nil=>simp [encL]
 | cons x l ih=>simp [encL,ih]
theorem Qi5 (l:List Itm)(k:Itm):encL (l++[k])=encL l++encI k:=by rw [Qdh];simp [encL]
theorem Q34 {k:Itm}:∀ {ks:List Itm},k∈ks→bulkI k≤bulkL ks
 | x::ks,h=>by
  unfold bulkL
  rcases List.mem_cons.1 h with rfl|h
  ·omega
  ·have:=Q34 h;omega
theorem Q5k (x:Itm):1≤bulkI x:=by cases x;unfold bulkI;omega
theorem Q5l:∀ (ks:List Itm),ks.length≤bulkL ks
 | []=>by simp [bulkL]
 | k::ks=>by
  have:=Q5k k
  have:=Q5l ks
  simp only [bulkL,List.length_cons];omega
theorem Qk1 (t:List UInt8)(h:t.length<18446744073709551616):(textB t).length≤9+t.length:=by
 unfold textB
 split
 ·omega
 ·have:=Q21 128 t.length h
  simp;omega
theorem Q30:∀ (n:Nat)(x:Itm),bulkI x≤n→n≤1000000000000→(encI x).length≤10*bulkI x
 | 0,x,h,_=>by have:=Q5k x;omega
 | n+1,.mk l tv t kv ks,h,hn=>by
  have key:∀ (ks:List Itm),bulkL ks≤n→(encL ks).length≤10*bulkL ks:=by
   intro ks
   induction ks with
   | nil=>intro _;simp [encL,bulkL]
   | cons k ks ih =>
    intro hk
    unfold bulkL at hk ⊢
    unfold encL
    have h1:=Q30 n k (by omega) (by omega)
    have h2:=ih (by omega)
    simp;omega
  unfold bulkI at h ⊢
  unfold encI
  have hk:=key ks (by omega)
  split
  ·have:=Q21 192 (encL ks).length (by omega)
   simp;omega
  ·have:=Qk1 t (by omega)
   omega
theorem Q8o (ks:List Itm)(h:bulkL ks≤1000000000000):(encL ks).length≤10*bulkL ks:=by
 induction ks with
 | nil=>simp [encL,bulkL]
 | cons k ks ih =>
  unfold bulkL at h ⊢
  unfold encL
  have h1:=Q30 (bulkI k) k (Nat.le_refl _) (by omega)
  have h2:=ih (by omega)
  simp;omega
theorem Qbq (ks:List Itm)(k:Nat):(encL (ks.take k)).length≤(encL ks).length:=by
 have e:encL ks=encL (ks.take k)++encL (ks.drop k):=by rw [←Qdh,List.take_append_drop]
 rw [e];simp
theorem Q6m (ks:List Itm)(k:Nat)(hk:k<ks.length):encL (ks.take (k+1))=encL (ks.take k)++encI ks[k]:=by
 rw [List.take_succ_eq_append_getElem hk,Qi5]
def OwnH (B base n:Nat):Ty:=fun v w=>OwnOf b8 1 5 w B v (headB base n)
theorem OwnH.mono (B base n:Nat):Mono (OwnH B base n):=fun _ _ _ h hb=>OwnOf.kept h hb
def Q53 (x:Itm)(w:World)(e:Ending)(w':World):Prop:=∃ v,e=.returned v∧OwnOf b8 1 5 w' w.heap.size v (encI x)∧Below w.heap.size w w'
theorem Qke (ta:Option Addr)(tn tc:Nat)(t:List UInt8)(htn:t.length=tn)(kv:Value)(ks:List Itm)(w:World)(h:Bytes w (.slice ta tn tc) t)(hN:tn≤1000000000000) :
  Calls Tryz.prog 47 #[.agg #[.bool false,.slice ta tn tc,kv]] w (Q53 (.mk false (.slice ta tn tc) t kv ks) w):=by
 have hbel1:Below w.heap.size w (w.alloc (.cells #[.bool false,.slice ta tn tc,kv] 77)):=Qba _ _
 by_cases h1:tn=1∧(t[0]?.getD 0).toNat<128
 ·obtain ⟨h1,h128⟩:=h1
  obtain ⟨x,rfl⟩:∃ x,t=[x]:=List.length_eq_one_iff.1 (htn.trans h1)
  subst h1
  have hx:(x.toNat:Int)<128:=by simp at h128;omega
  obtain ⟨b,off,rfl,hc⟩:=Bytes.at h 0 (by simp)
  have hE:encI (.mk false (.slice (some ⟨b,off,none⟩) 1 tc) [x] kv ks)=[x]:=by
   unfold encI textB
   rw [if_neg (by simp),if_pos (by simp at h128 ⊢;exact h128)]
  have hlt:=World.block_lt_of_cell? w _ hc
  have hc':(w.alloc (.cells #[.bool false,.slice (some ⟨b,off,none⟩) 1 tc,kv] 77)).cell? ⟨b,off,none⟩=some (.int .u8 (x.toNat:Int)):=by
   rw [hbel1.cell (p:=⟨b,off,none⟩) hlt];simpa using hc
  have hO:=OwnOf.made b8 1 5 (w.alloc (.cells #[.bool false,.slice (some ⟨b,off,none⟩) 1 tc,kv] 77)) w.heap.size [x] #[.int .u8 (x.toNat:Int)] 1 rfl rfl rfl hbel1.size (by unfold maxLen;omega)
  rw [World.size_alloc] at hO
  have HO:=Qhd hO
  have HE:=Qhd hE
  clear hE htn hc h128 hO
  go_enter Tryz.func47,Tryz.ntmps47
  go_wp2_with fail
  go_ret
  refine ⟨_,rfl,?_,hbel1.alloc hbel1.size _⟩
  rw [HE.out]
  exact HO.out
 ·have hE:encI (.mk false (.slice ta tn tc) t kv ks)=headB 128 tn++t:=by
   unfold encI textB
   rw [if_neg (by simp),if_neg (by rw [htn];exact h1),htn]
  have hhl:=Q21 128 tn (by omega)
  have ch:=fun w=>Qdd 128 tn (by omega) (by omega) w
  obtain ⟨w1,hw1⟩:∃ w1,w1=w.alloc (.cells #[.bool false,.slice ta tn tc,kv] 77):=⟨_,rfl⟩
  have hB1:Blk 77 w1 w.heap.size [.bool false,.slice ta tn tc,kv]:=by rw [hw1];exact Blk.new w _ _
  rw [←hw1] at hbel1
  have kt:=hB1.cell 1
  have k1:=fun u:Ext w1=>u.cell (kt.trans (show _=some (Value.slice ta tn tc) from rfl))
  have hb1:=h.below hbel1
  have HE:=Qhd hE
  have Hw1:=Qhd hw1
  have Htn:=Qhd htn
  have Ch:=Qhd ch
  have Hhl:=Qhd hhl
  clear hE hw1 ch kt hhl
  by_cases ht1:tn=1
  ·subst ht1
   obtain ⟨x,rfl⟩:∃ x,t=[x]:=List.length_eq_one_iff.1 htn
   have hx:¬ (x.toNat:Int)<128:=fun hx=>h1 ⟨rfl,by simp;omega⟩
   obtain ⟨b,off,rfl,hc⟩:=Bytes.at h 0 (by simp)
   have hlt:=World.block_lt_of_cell? w _ hc
   have hc':w1.cell? ⟨b,off,none⟩=some (.int .u8 (x.toNat:Int)):=by
    rw [hbel1.cell (p:=⟨b,off,none⟩) hlt];simpa using hc
   rw [Hw1.out] at hc'
   clear htn hc h1
   go_enter Tryz.func47,Tryz.ntmps47
   go_wp2_with fail
   rw [←Hw1.out]
   clear hc'
   refine Q02 w1 6 (by kernel_rfl) (by kernel_rfl) (Below.refl _ _) ?_;simp only [List.take_succ_cons,List.take_zero,List.take_nil]
   iterate 3 (refine Q01 (by rfl) (fun K hK=>?_);go_simp;refine hK _ ?_;clear hK K)
   refine Q07 28 (OwnH w1.heap.size 128 1) rfl (of_decide_eq_true rfl) (OwnH.mono _ _ _) (fun w2 hw2=>?_) ?_
   ·simp only [relOf,List.filter_nil,Q00]
    refine ⟨rfl,?_⟩
    go_simp
    refine (Ch.out w2).mono ?_
    rintro e w3 ⟨v,rfl,o3,b3⟩
    exact ⟨v,rfl,o3.lower hw2.size,b3⟩
   iterate 2 (refine Q01 (by rfl) (fun K hK=>?_);go_simp;refine hK _ ?_;clear hK K)
   refine Q09 ?_
   intro u2 hb2 v28 h28
   change wpList _ _ _ [_,_] _ _
   have o2:OwnOf b8 1 5 u2 w.heap.size v28 (headB 128 1):=OwnOf.lower h28 hbel1.size
   have hbel2:=Below.then hbel1 hb2
   have ht2:=hb1.below hb2
   have hlo:=OwnOf.lt o2
   clear h28 k1
   go_wp2_with (refine Q0m (o:=⟨some 31,_,_,_,_,_⟩) (by rfl) (.tmp 28) (.tmp 30) 25 (by rfl) elU8 (by rfl) o2 (by rfl) ht2 hbel2.size (by have:=Hhl.out;simp;omega) (by have:=Hhl.out;unfold maxLen;simp;omega) ?_;intro v5 w5 o5 g5 _;have b5:=hbel2.grown g5 hbel2.size hlo)
   go_ret
   exact ⟨_,rfl,by rw [HE.out];exact o5,b5⟩
  ·have hne:((tn:Int)==1)=false:=by rw [beq_eq_false_iff_ne];omega
   clear h1 ht1
   go_enter Tryz.func47,Tryz.ntmps47
   go_wp2_with fail
   rw [←Hw1.out]
   clear hne
   refine Q02 w1 6 (by kernel_rfl) (by kernel_rfl) (Below.refl _ _) ?_;simp only [List.take_succ_cons,List.take_zero,List.take_nil]
   iterate 3 (refine Q01 (by rfl) (fun K hK=>?_);go_simp;refine hK _ ?_;clear hK K)
   refine Q07 28 (OwnH w1.heap.size 128 tn) rfl (of_decide_eq_true rfl) (OwnH.mono _ _ _) (fun w2 hw2=>?_) ?_
   ·simp only [relOf,List.filter_nil,Q00]
    refine ⟨rfl,?_⟩
    go_simp
    refine (Ch.out w2).mono ?_
    rintro e w3 ⟨v,rfl,o3,b3⟩
    exact ⟨v,rfl,o3.lower hw2.size,b3⟩
   iterate 2 (refine Q01 (by rfl) (fun K hK=>?_);go_simp;refine hK _ ?_;clear hK K)
   refine Q09 ?_
   intro u2 hb2 v28 h28
   change wpList _ _ _ [_,_] _ _
   have o2:OwnOf b8 1 5 u2 w.heap.size v28 (headB 128 tn):=OwnOf.lower h28 hbel1.size
   have hbel2:=Below.then hbel1 hb2
   have ht2:=hb1.below hb2
   have hlo:=OwnOf.lt o2
   clear h28 k1
   go_wp2_with (refine Q0m (o:=⟨some 31,_,_,_,_,_⟩) (by rfl) (.tmp 28) (.tmp 30) 25 (by rfl) elU8 (by rfl) o2 (by rfl) ht2 hbel2.size (by rw [Htn.out];have:=Hhl.out;omega) (by rw [Htn.out];have:=Hhl.out;unfold maxLen;omega) ?_;intro v5 w5 o5 g5 _;have b5:=hbel2.grown g5 hbel2.size hlo)
   go_ret
   exact ⟨_,rfl,by rw [HE.out];exact o5,b5⟩
theorem elItem:El0 Tryz.prog 75 77 (.agg #[.bool false,.slice none 0 0,.slice none 0 0]) 3 56 icells:=⟨by kernel_rfl,by kernel_rfl,rfl,by omega,Q0p⟩
theorem Q0z (a:Option Addr)(n c:Nat)(w:World):Calls Tryz.prog 49 #[.slice a n c] w fun e w'=>e=.returned (.agg #[.bool false,.slice a n c,.slice none 0 0])∧Below w.heap.size w w':=by
 have hb:=Blk.new w 77 [.bool false,.slice a n c,.slice none 0 0]
 have hbel:Below w.heap.size w (w.alloc (.cells #[.bool false,.slice a n c,.slice none 0 0] 77)):=Qba _ _
 go_enter Tryz.func49,Tryz.ntmps49
 go_wp2
 exact bodyPost_ret (Q0b rfl _ _ w.heap.size Q0a hb rfl rfl) rfl ⟨rfl,hbel⟩
theorem Q2d (a:Option Addr)(n c:Nat)(w:World):Calls Tryz.prog 55 #[.slice a n c] w fun e w'=>e=.returned (.agg #[.bool false,.slice a n c,.slice none 0 0])∧Below w.heap.size w w':=by
 have hb:=Blk.new w 77 [.bool false,.slice a n c,.slice none 0 0]
 have hbel:Below w.heap.size w (w.alloc (.cells #[.bool false,.slice a n c,.slice none 0 0] 77)):=Qba _ _
 go_enter Tryz.func55,Tryz.ntmps55
 go_wp2
 exact bodyPost_ret (Q0b rfl _ _ w.heap.size Q0a hb rfl rfl) rfl ⟨rfl,hbel⟩
theorem Q2i (a:Option Addr)(n c:Nat)(w:World):Calls Tryz.prog 48 #[.slice a n c] w fun e w'=>e=.returned (.agg #[.bool true,.slice none 0 0,.slice a n c])∧Below w.heap.size w w':=by
 have hb:=Blk.new w 77 [.bool true,.slice none 0 0,.slice a n c]
 have hbel:Below w.heap.size w (w.alloc (.cells #[.bool true,.slice none 0 0,.slice a n c] 77)):=Qba _ _
 go_enter Tryz.func48,Tryz.ntmps48
 go_wp2
 exact bodyPost_ret (Q0b rfl _ _ w.heap.size Q0a hb rfl rfl) rfl ⟨rfl,hbel⟩
theorem Q49 (a:Option Addr)(n c:Nat)(w:World):Calls Tryz.prog 52 #[.slice a n c] w fun e w'=>e=.returned (.agg #[.bool true,.slice none 0 0,.slice a n c])∧Below w.heap.size w w':=by
 have hb:=Blk.new w 77 [.bool true,.slice none 0 0,.slice a n c]
 have hbel:Below w.heap.size w (w.alloc (.cells #[.bool true,.slice none 0 0,.slice a n c] 77)):=Qba _ _
 go_enter Tryz.func52,Tryz.ntmps52
 go_wp2
 exact bodyPost_ret (Q0b rfl _ _ w.heap.size Q0a hb rfl rfl) rfl ⟨rfl,hbel⟩
theorem Qkf (tv:Value)(t:List UInt8)(ka:Option Addr)(kn kc:Nat)(ks:List Itm)(hkn:ks.length=kn)(w:World)(hk:RowOf icells 3 w (.slice ka kn kc) ks)(hi:∀ k∈ks,IsItm w k)(hN:bulkL ks≤1000000000000)
  (ih:∀ k∈ks,∀ w',IsItm w' k→Calls Tryz.prog 47 #[.agg (icells k).toArray] w' (Q53 k w')) :
  Calls Tryz.prog 47 #[.agg #[.bool true,tv,.slice ka kn kc]] w (Q53 (.mk true tv t (.slice ka kn kc) ks) w):=by
 have hbel1:Below w.heap.size w (w.alloc (.cells #[.bool true,tv,.slice ka kn kc] 77)):=Qba _ _
 have hE:encI (.mk true tv t (.slice ka kn kc) ks)=headB 192 (encL ks).length++encL ks:=by
  unfold encI
  rw [if_pos rfl]
 have hll:(encL ks).length≤10000000000000:=by have:=Q8o ks hN;omega
 have hhl:=Q21 192 (encL ks).length (by omega)
 have hnl:kn≤1000000000000:=by have:=Q5l ks;omega
 have hle:=fun k=>Qbq ks k
 have hst:=fun k hk=>Q6m ks k hk
 have hall:encL (ks.take kn)=encL ks:=by rw [←hkn,List.take_length]
 have hbk:∀ k,k∈ks→(encI k).length≤10000000000000:=fun k hk=>by
  have h1:=Q34 hk
  have:=Q30 (bulkI k) k (Nat.le_refl _) (by omega)
  omega
 have Hkn:=Qhd hkn
 have HE:=Qhd hE
 have Hle:=Qhd hle
 have Hst:=Qhd hst
 have Hi:=Qhd hi
 have Ih:=Qhd ih
 have Hall:=Qhd hall
 have Hbk:=Qhd hbk
 have Hll:=Qhd hll
 have Hhl:=Qhd hhl
 clear hkn hE hle hst hi ih hall hbk hll hhl hN
 go_enter Tryz.func47,Tryz.ntmps47
 go_wp2_with fail
 go_loopw [3,35] (fun v ix wr=>∃ k:Nat,k≤kn∧ix=.int .i64 (k:Int)∧OwnOf b8 1 5 wr w.heap.size v (encL (ks.take k))∧Below w.heap.size w wr) (fun _ ix _=>kn - (intOf ix).toNat)
 case atStart=>exact ⟨0,by omega,rfl,OwnOf.nil b8 1 _ _ _,hbel1⟩
 case round =>
  clear hbel1
  obtain ⟨k,hk',rfl,hO,hbel⟩:=hrel
  by_cases hlt:k<kn
  ·have hki:(k:Int)<(kn:Int):=by omega
   have hkl:k<ks.length:=by rw [Hkn.out];exact hlt
   obtain ⟨b,off,rfl,hr⟩:=RowOf.range Q0p (hk.below hbel) k hkl
   have hI:IsItm wr ks[k]:=(Hi.out _ (List.getElem_mem hkl)).kept hbel
   have hc:=fun x hx=>Ih.out _ (List.getElem_mem hkl) x hx
   have hs:=Hst.out k hkl
   have hl:=Hle.out k
   have hm:=Hbk.out _ (List.getElem_mem hkl)
   obtain ⟨kid,hkid⟩:∃ x,x=ks[k]:=⟨_,rfl⟩
   rw [←hkid] at hr hI hc hs hm
   obtain ⟨S0,hS0⟩:∃ S0,S0=encL (ks.take k):=⟨_,rfl⟩
   obtain ⟨S1,hS1⟩:∃ S1,S1=encL (ks.take (k+1)):=⟨_,rfl⟩
   rw [←hS0] at hO hs hl
   rw [←hS1] at hs
   obtain ⟨T,hT⟩:∃ T,T=encI kid:=⟨_,rfl⟩
   unfold Q53 at hc
   rw [←hT] at hc hs hm
   obtain ⟨l2,tv2,t2,kv2,ks2⟩:=kid
   obtain ⟨ta2,tc2,rfl,_,_⟩:=hI.inv.1.form
   obtain ⟨ka2,kc2,rfl,_,_⟩:=hI.inv.2.1.form
   obtain ⟨tn2,htn2⟩:∃ tn2,tn2=t2.length:=⟨_,rfl⟩
   obtain ⟨kn2,hkn2⟩:∃ kn2,kn2=ks2.length:=⟨_,rfl⟩
   rw [←htn2,←hkn2] at hr hI hc
   change wr.rangeAt b (off+k*3) [.bool l2,.slice ta2 tn2 tc2,.slice ka2 kn2 kc2] at hr
   change ∀ x,IsItm x _→Calls Tryz.prog 47 #[.agg #[.bool l2,.slice ta2 tn2 tc2,.slice ka2 kn2 kc2]] x _ at hc
   have hbs:=hbel.size
   have hbel2:Below w.heap.size w (wr.alloc (.cells #[.bool l2,.slice ta2 tn2 tc2,.slice ka2 kn2 kc2] 77)):=hbel.alloc hbs _
   have hI2:=hI.kept ((Below.refl wr.heap.size wr).alloc (Nat.le_refl _) (.cells #[.bool l2,.slice ta2 tn2 tc2,.slice ka2 kn2 kc2] 77))
   have hO2:=hO.alloc (.cells #[.bool l2,.slice ta2 tn2 tc2,.slice ka2 kn2 kc2] 77)
   have hlo:=OwnOf.lt hO
   have hbb:S0.length+T.length≤30000000000000:=by have:=Hll.out;omega
   have Hs:=Qhd hs
   have Hc:=Qhd hc
   have HS1:=Qhd hS1
   clear hs hc hS1 hS0 hT hkid hI hl hm htn2 hkn2
   go_wp2_with (first
    |(refine wpList_load_mid (op:=⟨some 38,_,_,_,_,_⟩) (by rfl) 77 (.tmp 37) (by rfl) b (off+k*3) (by rfl) [.bool l2,.slice ta2 tn2 tc2,.slice ka2 kn2 kc2] _ hr Tryz.underlying77 rfl (by kernel_rfl) ?_)
    |(go_at_call 47;(with_reducible refine (Hc.out _ hI2).mono ?_);rintro e w3 ⟨v3,rfl,o3,b3⟩;have hbel3:=Below.then hbel2 b3;have hO3:=hO2.kept b3;have hlo3:=hlo)
    |(refine Q0m (o:=⟨some 42,_,_,_,_,_⟩) (by rfl) (.tmp 39) (.tmp 41) 25 (by rfl) elU8 (by rfl) hO3 (by rfl) o3.row hbel3.size (by omega) (by unfold maxLen;omega) ?_;intro v5 w5 o5 g5 _;have hbel5:=hbel3.grown g5 hbel3.size hlo3;rw [←Hs.out,HS1.out] at o5))
   go_roundw
   case rel=>exact ⟨k+1,by omega,by go_num,o5,hbel5⟩
   case measure=>simp [intOf];omega
  ·obtain rfl:k=kn:=by omega
   rw [Hall.out] at hO
   have hN2:(encL ks).length≤10000000000000:=by have:=Hll.out;omega
   obtain ⟨S,hS⟩:∃ S,S=encL ks:=⟨_,rfl⟩
   have hhl:=Hhl.out
   have hE:=HE.out
   rw [←hS] at hO hhl hE hN2
   obtain ⟨sn,hsn⟩:∃ sn,sn=S.length:=⟨_,rfl⟩
   rw [←hsn] at hhl hE hN2
   obtain ⟨a3,c3,rfl,_⟩:=hO.form' sn hsn.symm
   have ch:=fun x=>Qdd 192 sn (by omega) (by omega) x
   obtain ⟨Hd,hHd⟩:∃ Hd,Hd=headB 192 sn:=⟨_,rfl⟩
   rw [←hHd] at hhl hE
   simp only [←hHd] at ch
   change ∀ x,Calls Tryz.prog 87 #[.int .u8 192,.int .i64 (sn:Int)] x _ at ch
   have Ch:=Qhd ch
   have HE2:=Qhd hE
   have Hsn:=Qhd hsn
   clear ch hE hsn hHd hS
   have hbs:=hbel.size
   go_wp2_with (first
    |(go_at_call 87;(with_reducible refine (Ch.out _).mono ?_);rintro e w3 ⟨v3,rfl,o3,b3⟩;have hbel3:=Below.then hbel b3;have hO3:=hO.kept b3;have o3':=OwnOf.lower o3 hbs;have hlo3:=OwnOf.lt o3')
    |(refine Q0m (o:=⟨some 48,_,_,_,_,_⟩) (by rfl) (.tmp 46) (.tmp 47) 25 (by rfl) elU8 (by rfl) o3' (by rfl) hO3.row hbel3.size (by rw [←Hsn.out];omega) (by rw [←Hsn.out];unfold maxLen;omega) ?_;intro v5 w5 o5 g5 _;have hbel5:=hbel3.grown g5 hbel3.size hlo3))
   go_ret
   exact ⟨_,rfl,by rw [HE2.out];exact o5,hbel5⟩
theorem Q4y:∀ (n:Nat)(x:Itm)(w:World),bulkI x≤n→n≤1000000000000→IsItm w x→Calls Tryz.prog 47 #[.agg (icells x).toArray] w (Q53 x w)
 | 0,x,_,h,_,_=>by have:=Q5k x;omega
 | n+1,.mk l tv t kv ks,w,h,hn,hI=>by
  obtain ⟨h1,h2,h3⟩:=hI.inv
  obtain ⟨ta,tc,rfl,_,_⟩:=h1.form
  obtain ⟨ka,kc,rfl,_,_⟩:=h2.form
  unfold bulkI at h
  cases l with
  | false=>exact Qke ta t.length tc t rfl _ ks w h1 (by omega)
  | true=>exact Qkf _ t ka ks.length kc ks rfl w h2 h3 (by omega) (fun k hk w' hI'=>Q4y n k w' (by have:=Q34 hk;omega) (by omega) hI')
end Go.Proofs.YtbdmkfjgnjfjbaaGreat
