/- What the bound of the second form gives: lemmas of my own over the given measure. -/
import Derived.Test.YtohenjgegkgncaaTabs
import Derived.Test.YtohenjgegkgncaaOpen
set_option linter.unusedSimpArgs false
set_option linter.unusedVariables false
namespace Go.Proofs.Ytohenjgegkgncaa
variable {H : Type}
theorem upto_mem : ∀ {l : List (DataW H)} {d : DataW H}, d ∈ l → Rows.uptoBulk d ≤ Rows.uptoBulkAll l
  | x :: l, d, h => by
    unfold Rows.uptoBulkAll
    rcases List.mem_cons.1 h with rfl | h
    · omega
    · have := upto_mem h; omega
theorem upto_one (d : DataW H) : 1 ≤ Rows.uptoBulk d := by
  cases d with
  | lit l => cases l <;> simp [Rows.uptoBulk]
  | nil => simp [Rows.uptoBulk]
  | ptr d => simp [Rows.uptoBulk]
  | slice a b => simp [Rows.uptoBulk]
  | agg p => simp [Rows.uptoBulk]
  | iface n d => simp [Rows.uptoBulk]
  | map e => simp [Rows.uptoBulk]
  | held x => simp [Rows.uptoBulk]
theorem upto_len : ∀ (l : List (DataW H)), l.length ≤ Rows.uptoBulkAll l
  | [] => by simp
  | d :: l => by
    unfold Rows.uptoBulkAll
    have h1 := upto_one d
    have h2 := upto_len l
    simp only [List.length_cons]; omega
theorem upto_part {ds : List (DataW H)} (hk : Rows.uptoSmall H ds = true) {j : Nat} {d : DataW H} (hd : ds[j]? = some d) : Rows.uptoBulk d ≤ 1048576 := by
  have h := of_decide_eq_true hk
  exact Nat.le_trans (upto_mem (List.mem_of_getElem? hd)) h
theorem upto_sz {d : DataW H} {n : Nat} (h : Sz d n) : n ≤ Rows.uptoBulk d := by
  rcases h with ⟨rfl, rfl⟩ | ⟨es, sp, rfl, rfl⟩
  · omega
  · have := upto_len es
    unfold Rows.uptoBulk; omega
theorem upto_str {bs : List UInt8} {N : Nat} (h : Rows.uptoBulk (DataW.lit (H := H) (.string bs)) ≤ N) : bs.length ≤ N := by
  unfold Rows.uptoBulk at h; omega
end Go.Proofs.Ytohenjgegkgncaa
