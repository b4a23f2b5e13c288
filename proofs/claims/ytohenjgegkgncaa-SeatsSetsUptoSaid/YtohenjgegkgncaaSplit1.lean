/- What bytes are read as an item: plain Lean, no program in sight. -/
import Derived.Test.YtohenjgegkgncaaEnc2
set_option linter.unusedSimpArgs false
set_option linter.unusedVariables false
namespace Go.Proofs.Ytohenjgegkgncaa
open Go.RowKit
/-- what is read: a text or a list -/
inductive Pit where
  | txt (t : List UInt8)
  | lst (ks : List Pit)
/-- an item's meaning -/
def erI : Itm → Pit
  | .mk l _ t _ ks => if l = true then .lst (ks.attach.map fun ⟨k, _⟩ => erI k) else .txt t
theorem erI_mk (l : Bool) (tv : Value) (t : List UInt8) (kv : Value) (ks : List Itm) : erI (.mk l tv t kv ks) = if l = true then .lst (ks.map erI) else .txt t := by
  rw [erI]
  simp
/-- has it only what means something? -/
inductive BareI : Itm → Prop where
  | txt (tv : Value) (t : List UInt8) (kv : Value) : BareI (.mk false tv t kv [])
  | lst (tv kv : Value) (ks : List Itm) (h : ∀ k ∈ ks, BareI k) : BareI (.mk true tv [] kv ks)
/-- how long what follows is, and what follows -/
def hdr (c base : Nat) (r : List UInt8) : Option (Nat × List UInt8) :=
  if c < base + 48 then some (c - base, r)
  else if r.length < c - base - 48 + 1 then none
  else if (r.take (c - base - 48 + 1)).head? = some 0 ∨ 8 < c - base - 48 + 1 then none
  else if numL (r.take (c - base - 48 + 1)) < 48 then none
  else some (numL (r.take (c - base - 48 + 1)), r.drop (c - base - 48 + 1))
/-- is it one byte that stands for itself? -/
def own1 (k : Nat) (r : List UInt8) : Bool := decide (k = 1) && decide ((r[0]?.getD 0).toNat < 128)
/-- items to the end -/
def parL (f : List UInt8 → Option (Pit × List UInt8)) : Nat → List UInt8 → Option (List Pit)
  | _, [] => some []
  | 0, _ :: _ => none
  | m + 1, b :: bs => match f (b :: bs) with
    | none => none
    | some (p, r) => match parL f m r with
      | none => none
      | some ps => some (p :: ps)
def par : Nat → List UInt8 → Option (Pit × List UInt8)
  | _, [] => none
  | 0, _ :: _ => none
  | n + 1, c :: r =>
    if c.toNat < 128 then some (.txt [c], r)
    else if c.toNat < 192 then match hdr c.toNat 128 r with
      | none => none
      | some (k, r') => if r'.length < k ∨ own1 k r' = true then none else some (.txt (r'.take k), r'.drop k)
    else match hdr c.toNat 192 r with
      | none => none
      | some (k, r') => if r'.length < k then none else match parL (par n) k (r'.take k) with
        | none => none
        | some ks => some (.lst ks, r'.drop k)
theorem hdr_suf {c base : Nat} {r r' : List UInt8} {k : Nat} (h : hdr c base r = some (k, r')) : ∃ j, r' = r.drop j ∧ j ≤ r.length := by
  unfold hdr at h
  split at h
  · simp only [Option.some.injEq, Prod.mk.injEq] at h
    exact ⟨0, by simp [h.2], by omega⟩
  · split at h
    · simp at h
    · split at h
      · simp at h
      · split at h
        · simp at h
        · rename_i h1 h2 h3 _
          simp only [Option.some.injEq, Prod.mk.injEq] at h
          exact ⟨_, h.2.symm, by omega⟩
theorem numL_lt8 (l : List UInt8) (h : l.length ≤ 8) : numL l < 18446744073709551616 := by
  have h1 := numL_lt l
  have h2 : (256 : Nat) ^ l.length ≤ 256 ^ 8 := Nat.pow_le_pow_right (by omega) h
  have h3 : (256 : Nat) ^ 8 = 18446744073709551616 := rfl
  omega
theorem hdr_lt {c base : Nat} {r r' : List UInt8} {k : Nat} (hc : c < 256) (h : hdr c base r = some (k, r')) : k < 18446744073709551616 := by
  unfold hdr at h
  split at h
  · simp only [Option.some.injEq, Prod.mk.injEq] at h
    omega
  · split at h
    · simp at h
    · split at h
      · simp at h
      · split at h
        · simp at h
        · rename_i h1 h2 h3 _
          simp only [Option.some.injEq, Prod.mk.injEq] at h
          rw [← h.1]
          exact numL_lt8 _ (by rw [List.length_take]; omega)
/-- what is left is an end of what there was -/
theorem par_suf : ∀ (n : Nat) (b : List UInt8) (p : Pit) (r : List UInt8), par n b = some (p, r) → ∃ j, r = b.drop j ∧ 1 ≤ j ∧ j ≤ b.length
  | 0, [], p, r, h => by simp [par] at h
  | n + 1, [], p, r, h => by simp [par] at h
  | 0, _ :: _, p, r, h => by simp [par] at h
  | n + 1, c :: b, p, r, h => by
    unfold par at h
    split at h
    · simp only [Option.some.injEq, Prod.mk.injEq] at h
      exact ⟨1, by simp [h.2], by omega, by simp⟩
    · split at h
      · split at h
        · simp at h
        · rename_i k r' hh
          obtain ⟨j, hj⟩ := hdr_suf hh
          · split at h
            · simp at h
            · rename_i hk
              simp only [Option.some.injEq, Prod.mk.injEq] at h
              have hl : r'.length = b.length - j := by rw [hj.1, List.length_drop]
              refine ⟨1 + j + k, ?_, by omega, by simp; omega⟩
              rw [← h.2, hj.1, List.drop_drop, show 1 + j + k = (j + k) + 1 from by omega, List.drop_succ_cons]
      · split at h
        · simp at h
        · rename_i k r' hh
          obtain ⟨j, hj⟩ := hdr_suf hh
          · split at h
            · simp at h
            · rename_i hk
              split at h
              · simp at h
              · simp only [Option.some.injEq, Prod.mk.injEq] at h
                have hl : r'.length = b.length - j := by rw [hj.1, List.length_drop]
                refine ⟨1 + j + k, ?_, by omega, by simp; omega⟩
                rw [← h.2, hj.1, List.drop_drop, show 1 + j + k = (j + k) + 1 from by omega, List.drop_succ_cons]
theorem par_len {n : Nat} {b : List UInt8} {p : Pit} {r : List UInt8} (h : par n b = some (p, r)) : r.length < b.length := by
  obtain ⟨j, rfl, h1, h2⟩ := par_suf n b p r h
  rw [List.length_drop]; omega
theorem parL_nil (f : List UInt8 → Option (Pit × List UInt8)) (m : Nat) : parL f m [] = some [] := by cases m <;> rfl
/-- one more of the items -/
theorem parL_none {f : List UInt8 → Option (Pit × List UInt8)} {m : Nat} {b : List UInt8} (hb : b ≠ []) (hf : f b = none) : parL f (m + 1) b = none := by
  cases b with
  | nil => exact absurd rfl hb
  | cons x b => simp [parL, hf]
theorem parL_some {f : List UInt8 → Option (Pit × List UInt8)} {m : Nat} {b r : List UInt8} {p : Pit} (hb : b ≠ []) (hf : f b = some (p, r)) : parL f (m + 1) b = (parL f m r).map (p :: ·) := by
  cases b with
  | nil => exact absurd rfl hb
  | cons x b =>
    simp only [parL, hf]
    cases parL f m r <;> rfl
end Go.Proofs.Ytohenjgegkgncaa
