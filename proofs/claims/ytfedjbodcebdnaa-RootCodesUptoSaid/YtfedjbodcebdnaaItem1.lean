/- pack.Text, pack.List and the reference's; lists of items of the call's own. -/
import Derived.Test.YtfedjbodcebdnaaEnc6
set_option linter.unusedSimpArgs false
set_option linter.unusedVariables false
namespace Go.Proofs.Ytfedjbodcebdnaa
open Go.RowKit
/-- '[]T{x, y, ..}', the new world under a name of its own. -/
theorem wpList_buildW {α : Type} {f : α → List Value} {P : Program} {w : World} {ops : Array Oper} {rest : List Oper} {o : Oper} {a : Act} {Q : Exit → Act → World → Prop} (hgd : o.guard = none) (t : TypeId) (n : Nat) (ps : List (Nat × Operand))
    (ho : o.op = .buildSlice t n ps.toArray) {e : TypeId} {z : Value} {size bytes : Nat} (el : El0 P t e z size bytes f) (l : List α) (vs : List Value) (hl : l.length = n) (hv : (ps.map fun x => (x.1, a.eval x.2)) = (vs.zipIdx 0).map fun x => (x.2, x.1))
    (hc : vs.map (fun v => v.cells.toList) = l.map f) (hn : 0 < n) (hs : n * size ≤ 16777216)
    (h : ∀ w', Blk e w' w.heap.size (l.flatMap f) → RowOf f size w' (.slice (some ⟨w.heap.size, 0, none⟩) n n) l → Below w.heap.size w w' → wpList P ops Q rest (a.put o.dst (.slice (some ⟨w.heap.size, 0, none⟩) n n)) w') : wpList P ops Q (o :: rest) a w := by
  have hp := el.hsz
  have hm : n ≤ maxLen := by
    have : n * 1 ≤ n * size := Nat.mul_le_mul_left _ hp
    unfold maxLen; omega
  exact wpList_buildN hgd t n ps.toArray ho el l vs hl (by rw [← hv]; simp) hc hn hs (h _ (Blk.new w e _) (Row.built el.hf w e l n hl hm) ((Below.refl _ _).alloc (Nat.le_refl _) _))
theorem elItem : El0 Try.prog 35 37 (.agg #[.bool false, .slice none 0 0, .slice none 0 0]) 3 56 icells := ⟨by kernel_rfl, by kernel_rfl, rfl, by omega, icells_len⟩
set_option maxRecDepth 100000 in
theorem text_any (a : Option Addr) (n c : Nat) (w : World) : Calls Try.prog 80 #[.slice a n c] w fun e w' => e = .returned (.agg #[.bool false, .slice a n c, .slice none 0 0]) ∧ Below w.heap.size w w' := by
  have hb := Blk.new w 37 [.bool false, .slice a n c, .slice none 0 0]
  have hbel : Below w.heap.size w (w.alloc (.cells #[.bool false, .slice a n c, .slice none 0 0] 37)) := (Below.refl _ _).alloc (Nat.le_refl _) _
  go_enter Try.func80, Try.ntmps80
  go_wp2
  exact bodyPost_ret (results_blk rfl _ _ w.heap.size aggItem hb rfl rfl) rfl ⟨rfl, hbel⟩
set_option maxRecDepth 100000 in
theorem ptext_any (a : Option Addr) (n c : Nat) (w : World) : Calls Try.prog 63 #[.slice a n c] w fun e w' => e = .returned (.agg #[.bool false, .slice a n c, .slice none 0 0]) ∧ Below w.heap.size w w' := by
  have hb := Blk.new w 37 [.bool false, .slice a n c, .slice none 0 0]
  have hbel : Below w.heap.size w (w.alloc (.cells #[.bool false, .slice a n c, .slice none 0 0] 37)) := (Below.refl _ _).alloc (Nat.le_refl _) _
  go_enter Try.func63, Try.ntmps63
  go_wp2
  exact bodyPost_ret (results_blk rfl _ _ w.heap.size aggItem hb rfl rfl) rfl ⟨rfl, hbel⟩
set_option maxRecDepth 100000 in
theorem list_any (a : Option Addr) (n c : Nat) (w : World) : Calls Try.prog 79 #[.slice a n c] w fun e w' => e = .returned (.agg #[.bool true, .slice none 0 0, .slice a n c]) ∧ Below w.heap.size w w' := by
  have hb := Blk.new w 37 [.bool true, .slice none 0 0, .slice a n c]
  have hbel : Below w.heap.size w (w.alloc (.cells #[.bool true, .slice none 0 0, .slice a n c] 37)) := (Below.refl _ _).alloc (Nat.le_refl _) _
  go_enter Try.func79, Try.ntmps79
  go_wp2
  exact bodyPost_ret (results_blk rfl _ _ w.heap.size aggItem hb rfl rfl) rfl ⟨rfl, hbel⟩
set_option maxRecDepth 100000 in
theorem plist_any (a : Option Addr) (n c : Nat) (w : World) : Calls Try.prog 64 #[.slice a n c] w fun e w' => e = .returned (.agg #[.bool true, .slice none 0 0, .slice a n c]) ∧ Below w.heap.size w w' := by
  have hb := Blk.new w 37 [.bool true, .slice none 0 0, .slice a n c]
  have hbel : Below w.heap.size w (w.alloc (.cells #[.bool true, .slice none 0 0, .slice a n c] 37)) := (Below.refl _ _).alloc (Nat.le_refl _) _
  go_enter Try.func64, Try.ntmps64
  go_wp2
  exact bodyPost_ret (results_blk rfl _ _ w.heap.size aggItem hb rfl rfl) rfl ⟨rfl, hbel⟩
/-- a text as an item -/
def txt (v : Value) (t : List UInt8) : Itm := .mk false v t (.slice none 0 0) []
theorem IsItm.txt {w : World} {v : Value} {t : List UInt8} (h : Bytes w v t) : IsItm w (txt v t) := .mk false v t _ [] h (RowOf.nil icells 3 w) (by simp)
theorem encI_txt (v : Value) (t : List UInt8) : encI (txt v t) = textB t := by unfold txt encI; rw [if_neg (by simp)]
theorem bulk_txt (v : Value) (t : List UInt8) : bulkI (txt v t) = 1 + t.length := by unfold txt bulkI bulkL; omega
/-- a list of texts, as an item of the call's own making -/
def lst (kv : Value) (ks : List Itm) : Itm := .mk true (.slice none 0 0) [] kv ks
theorem IsItm.lst {w : World} {kv : Value} {ks : List Itm} (h : RowOf icells 3 w kv ks) (hi : ∀ k ∈ ks, IsItm w k) : IsItm w (lst kv ks) := .mk true _ [] kv ks (RowOf.nil b8 1 w) h hi
theorem encI_lst (kv : Value) (ks : List Itm) : encI (lst kv ks) = headB 192 (encL ks).length ++ encL ks := by unfold lst encI; rw [if_pos rfl]
theorem bulk_lst (kv : Value) (ks : List Itm) : bulkI (lst kv ks) = 1 + bulkL ks := by unfold lst bulkI; simp
end Go.Proofs.Ytfedjbodcebdnaa
