/- What the bound of the second form gives of slices of anything: lemmas of my own over the given measure. -/
import Derived.Test.YtohenjgegkgncaaUpto
import Derived.Test.YtohenjgegkgncaaOpen2
set_option linter.unusedSimpArgs false
set_option linter.unusedVariables false
namespace Go.Proofs.Ytohenjgegkgncaa
variable {H : Type}
theorem upto_list {α : Type} {m : α → Nat} {sz : DataW H → α → Prop} (hm : ∀ d x, sz d x → m x ≤ Rows.uptoBulk d) : ∀ (es : List (DataW H)) (l : List α), es.length = l.length → (∀ (i : Nat) (e : DataW H) (y : α), es[i]? = some e → l[i]? = some y → sz e y) → (l.map m).sum ≤ Rows.uptoBulkAll es
  | [], [], _, _ => by simp
  | e :: es, y :: l, hl, h => by
    have h1 := hm e y (h 0 e y rfl rfl)
    have h2 := upto_list hm es l (by simpa using hl) (fun i e' y' he hy => h (i + 1) e' y' (by simpa using he) (by simpa using hy))
    unfold Rows.uptoBulkAll
    simp only [List.map_cons, List.sum_cons]
    omega
  | [], _ :: _, hl, _ => by simp at hl
  | _ :: _, [], hl, _ => by simp at hl
theorem upto_rows {α : Type} {m : α → Nat} {sz : DataW H → α → Prop} (hm : ∀ d x, sz d x → m x ≤ Rows.uptoBulk d) {d : DataW H} {l : List α} (h : SzL sz d l) : (l.map m).sum ≤ Rows.uptoBulk d := by
  rcases h with ⟨_, rfl⟩ | ⟨es, sp, rfl, hl, h⟩
  · simp
  · have := upto_list hm es l hl h
    unfold Rows.uptoBulk; omega
theorem upto_texts {d : DataW H} {ps : List (Value × List UInt8)} (h : SzT d ps) : ps.length ≤ Rows.uptoBulk d ∧ (ps.flatMap (·.2)).length ≤ Rows.uptoBulk d := by
  refine ⟨upto_sz h.sz, ?_⟩
  have := upto_rows (m := fun p : Value × List UInt8 => p.2.length) (fun d x hx => upto_sz hx) h
  rw [List.length_flatMap]
  exact this
end Go.Proofs.Ytohenjgegkgncaa
