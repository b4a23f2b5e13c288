/- Items as data; the heads of what they are written as. | Items as data: what they are written as. | pack.Text, pack.List and the reference's. | pack.Encode. -/
import Derived.Test.YtakhaanenlblmaaBase
import Derived.Test.YtakhaanenlblmaaPackA
/- (Enc1) Items as data; the heads of what they are written as. -/
set_option linter.unusedSimpArgs false
set_option linter.unusedVariables false
namespace Go.Proofs.Ytakhaanenlblmaa
open Go.RowKit
def headB (base n:Nat):List UInt8:=if n<48 then [UInt8.ofNat (base+n)] else UInt8.ofNat (base+48+((numB n).length - 1))::numB n
theorem bare_split (l:List UInt8):∃ k,l=List.replicate k 0++bare l:=by
 induction l with
 | nil=>exact ⟨0,rfl⟩
 | cons x l ih =>
  by_cases h:x=0
  ·obtain ⟨k,hk⟩:=ih
   refine ⟨k+1,?_⟩
   rw [h,bare_zero,List.replicate_succ,List.cons_append,← hk]
  ·exact ⟨0,by rw [bare_else x l h];rfl⟩
theorem numL_bare (l:List UInt8):numL (bare l)=numL l:=by
 obtain ⟨k,hk⟩:=bare_split l
 rw [hk,numL_pad]
 rw [bare_pad,bare_same _ (bare_head l)]
theorem numL_ge (l:List UInt8) (h:l.head?≠some 0) (hl:l≠[]):256 ^ (l.length - 1)≤numL l:=by
 cases l with
 | nil=>exact absurd rfl hl
 | cons x l =>
  have hx:1≤x.toNat:=by
   have:x≠0:=by simpa using h
   rcases Nat.eq_zero_or_pos x.toNat with h0|h0
   ·exact absurd (UInt8.toNat_inj.1 (by rw [h0];rfl)) this
   ·exact h0
  simp only [numL,List.length_cons,Nat.add_sub_cancel]
  have:1 * 256 ^ l.length≤x.toNat * 256 ^ l.length:=Nat.mul_le_mul_right _ hx
  omega
theorem numB_num (N:Nat) (h:N<W256):numL (numB N)=N:=by unfold numB;rw [numL_bare,numL_wb N h]
theorem numB_len (N k:Nat) (h:N<256 ^ k) (hW:N<W256):(numB N).length≤k:=by
 by_cases hn:numB N=[]
 ·rw [hn];simp
 ·have h1:=numL_ge (numB N) (bare_head _) hn
  rw [numB_num N hW] at h1
  rcases Nat.lt_or_ge k (numB N).length with h2|h2
  ·have:(256:Nat) ^ k≤256 ^ ((numB N).length - 1):=Nat.pow_le_pow_right (by omega) (by omega)
   omega
  ·exact h2
theorem numB_pos (N:Nat) (h:0<N) (hW:N<W256):1≤(numB N).length:=by
 rcases Nat.eq_zero_or_pos (numB N).length with h0|h0
 ·have:=numB_num N hW
  rw [List.eq_nil_of_length_eq_zero h0] at this
  simp [numL] at this;omega
 ·exact h0
theorem numB_8 (n:Nat) (h:n<18446744073709551616):(numB n).length≤8 :=
 numB_len n 8 (by rw [show (256:Nat) ^ 8=18446744073709551616 from rfl];exact h) (by unfold W256;omega)
theorem headB_len (base n:Nat) (h:n<18446744073709551616):(headB base n).length≤9:=by
 unfold headB
 split
 ·simp
 ·have:=numB_8 n h;simp;omega
end Go.Proofs.Ytakhaanenlblmaa
/- (Enc2) Items as data: what they are written as. -/
namespace Go.Proofs.Ytakhaanenlblmaa
open Go.RowKit
inductive Itm where
 | mk (l:Bool) (tv:Value) (t:List UInt8) (kv:Value) (ks:List Itm)
def icells:Itm→List Value
 | .mk l tv _ kv _=>[.bool l,tv,kv]
theorem aggItem:Agg Try.prog 289 3:=⟨_,Try.underlying289,rfl,by kernel_rfl⟩
theorem icells_len (x:Itm):(icells x).length=3:=by cases x;rfl
inductive IsItm (w:World):Itm→Prop where
 | mk (l:Bool) (tv:Value) (t:List UInt8) (kv:Value) (ks:List Itm) (ht:Bytes w tv t) (hk:RowOf icells 3 w kv ks) (h:∀ k∈ks,IsItm w k):IsItm w (.mk l tv t kv ks)
theorem IsItm.kept {w w':World} {x:Itm} (h:IsItm w x) (hb:Below w.heap.size w w'):IsItm w' x:=by
 induction h with
 | mk l tv t kv ks ht hk _ ih=>exact .mk l tv t kv ks (ht.kept hb) (hk.kept hb) ih
theorem IsItm.inv {w:World} {l:Bool} {tv:Value} {t:List UInt8} {kv:Value} {ks:List Itm} (h:IsItm w (.mk l tv t kv ks)):Bytes w tv t∧RowOf icells 3 w kv ks∧∀ k∈ks,IsItm w k:=by
 cases h with
 | mk _ _ _ _ _ ht hk h=>exact ⟨ht,hk,h⟩
def textB (t:List UInt8):List UInt8:=if t.length=1∧(t[0]?.getD 0).toNat<128 then t else headB 128 t.length++t
mutual
def encI:Itm→List UInt8
 | .mk l _ t _ ks=>if l=true then headB 192 (encL ks).length++encL ks else textB t
def encL:List Itm→List UInt8
 | []=>[]
 | k::ks=>encI k++encL ks
end
mutual
def bulkI:Itm→Nat
 | .mk _ _ t _ ks=>1+t.length+bulkL ks
def bulkL:List Itm→Nat
 | []=>0
 | k::ks=>bulkI k+bulkL ks
end
theorem encL_app (l m:List Itm):encL (l++m)=encL l++encL m:=by
 induction l with
 | nil=>simp [encL]
 | cons x l ih=>simp [encL,ih]
theorem encL_snoc (l:List Itm) (k:Itm):encL (l++[k])=encL l++encI k:=by rw [encL_app];simp [encL]
theorem bulk_mem {k:Itm}:∀ {ks:List Itm},k∈ks→bulkI k≤bulkL ks
 | x::ks,h=>by
  unfold bulkL
  rcases List.mem_cons.1 h with rfl|h
  ·omega
  ·have:=bulk_mem h;omega
theorem bulk_pos (x:Itm):1≤bulkI x:=by cases x;unfold bulkI;omega
theorem bulk_len:∀ (ks:List Itm),ks.length≤bulkL ks
 | []=>by simp [bulkL]
 | k::ks=>by
  have:=bulk_pos k
  have:=bulk_len ks
  simp only [bulkL,List.length_cons];omega
theorem len_text (t:List UInt8) (h:t.length<18446744073709551616):(textB t).length≤9+t.length:=by
 unfold textB
 split
 ·omega
 ·have:=headB_len 128 t.length h
  simp;omega
theorem len_encI:∀ (n:Nat) (x:Itm),bulkI x≤n→n≤1000000000000→(encI x).length≤10 * bulkI x
 | 0,x,h,_=>by have:=bulk_pos x;omega
 | n+1,.mk l tv t kv ks,h,hn=>by
  have key:∀ (ks:List Itm),bulkL ks≤n→(encL ks).length≤10 * bulkL ks:=by
   intro ks
   induction ks with
   | nil=>intro _;simp [encL,bulkL]
   | cons k ks ih =>
    intro hk
    unfold bulkL at hk ⊢
    unfold encL
    have h1:=len_encI n k (by omega) (by omega)
    have h2:=ih (by omega)
    simp;omega
  unfold bulkI at h ⊢
  unfold encI
  have hk:=key ks (by omega)
  split
  ·have:=headB_len 192 (encL ks).length (by omega)
   simp;omega
  ·have:=len_text t (by omega)
   omega
theorem len_encL (ks:List Itm) (h:bulkL ks≤1000000000000):(encL ks).length≤10 * bulkL ks:=by
 induction ks with
 | nil=>simp [encL,bulkL]
 | cons k ks ih =>
  unfold bulkL at h ⊢
  unfold encL
  have h1:=len_encI (bulkI k) k (Nat.le_refl _) (by omega)
  have h2:=ih (by omega)
  simp;omega
theorem encL_le (ks:List Itm) (k:Nat):(encL (ks.take k)).length≤(encL ks).length:=by
 have e:encL ks=encL (ks.take k)++encL (ks.drop k):=by rw [← encL_app,List.take_append_drop]
 rw [e];simp
theorem encL_step (ks:List Itm) (k:Nat) (hk:k<ks.length):encL (ks.take (k+1))=encL (ks.take k)++encI ks[k]:=by
 rw [List.take_succ_eq_append_getElem hk,encL_snoc]
end Go.Proofs.Ytakhaanenlblmaa
/- (Item0) pack.Text, pack.List and the reference's. -/
namespace Go.Proofs.Ytakhaanenlblmaa
open Go.RowKit
theorem elItem:El0 Try.prog 287 289 (.agg #[.bool false,.slice none 0 0,.slice none 0 0]) 3 56 icells:=⟨by kernel_rfl,by kernel_rfl,rfl,by omega,icells_len⟩
set_option maxRecDepth 100000 in
theorem text_any (a:Option Addr) (n c:Nat) (w:World):Calls Try.prog 180 #[.slice a n c] w fun e w'=>e=.returned (.agg #[.bool false,.slice a n c,.slice none 0 0])∧Below w.heap.size w w':=by
 have hb:=Blk.new w 289 [.bool false,.slice a n c,.slice none 0 0]
 have hbel:Below w.heap.size w (w.alloc (.cells #[.bool false,.slice a n c,.slice none 0 0] 289)):=(Below.refl _ _).alloc (Nat.le_refl _) _
 go_enter Try.func180,Try.ntmps180
 go_wp2
 exact bodyPost_ret (results_blk rfl _ _ w.heap.size aggItem hb rfl rfl) rfl ⟨rfl,hbel⟩
set_option maxRecDepth 100000 in
theorem ptext_any (a:Option Addr) (n c:Nat) (w:World):Calls Try.prog 187 #[.slice a n c] w fun e w'=>e=.returned (.agg #[.bool false,.slice a n c,.slice none 0 0])∧Below w.heap.size w w':=by
 have hb:=Blk.new w 289 [.bool false,.slice a n c,.slice none 0 0]
 have hbel:Below w.heap.size w (w.alloc (.cells #[.bool false,.slice a n c,.slice none 0 0] 289)):=(Below.refl _ _).alloc (Nat.le_refl _) _
 go_enter Try.func187,Try.ntmps187
 go_wp2
 exact bodyPost_ret (results_blk rfl _ _ w.heap.size aggItem hb rfl rfl) rfl ⟨rfl,hbel⟩
set_option maxRecDepth 100000 in
theorem list_any (a:Option Addr) (n c:Nat) (w:World):Calls Try.prog 179 #[.slice a n c] w fun e w'=>e=.returned (.agg #[.bool true,.slice none 0 0,.slice a n c])∧Below w.heap.size w w':=by
 have hb:=Blk.new w 289 [.bool true,.slice none 0 0,.slice a n c]
 have hbel:Below w.heap.size w (w.alloc (.cells #[.bool true,.slice none 0 0,.slice a n c] 289)):=(Below.refl _ _).alloc (Nat.le_refl _) _
 go_enter Try.func179,Try.ntmps179
 go_wp2
 exact bodyPost_ret (results_blk rfl _ _ w.heap.size aggItem hb rfl rfl) rfl ⟨rfl,hbel⟩
set_option maxRecDepth 100000 in
theorem plist_any (a:Option Addr) (n c:Nat) (w:World):Calls Try.prog 186 #[.slice a n c] w fun e w'=>e=.returned (.agg #[.bool true,.slice none 0 0,.slice a n c])∧Below w.heap.size w w':=by
 have hb:=Blk.new w 289 [.bool true,.slice none 0 0,.slice a n c]
 have hbel:Below w.heap.size w (w.alloc (.cells #[.bool true,.slice none 0 0,.slice a n c] 289)):=(Below.refl _ _).alloc (Nat.le_refl _) _
 go_enter Try.func186,Try.ntmps186
 go_wp2
 exact bodyPost_ret (results_blk rfl _ _ w.heap.size aggItem hb rfl rfl) rfl ⟨rfl,hbel⟩
end Go.Proofs.Ytakhaanenlblmaa
/- (Enc3) pack.Encode. -/
namespace Go.Proofs.Ytakhaanenlblmaa
open Go.RowKit
end Go.Proofs.Ytakhaanenlblmaa
