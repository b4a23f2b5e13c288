/- What reading a header's bytes answers, as it is read: plain Lean. -/
import Derived.Test.YtffkjjpjfehcnaaHdr1
import Derived.Test.YtffkjjpjfehcnaaKid0
set_option linter.unusedSimpArgs false
set_option linter.unusedVariables false
namespace Go.Proofs.Ytffkjjpjfehcnaa
open Go.RowKit
theorem dec_read {p : Pit} (h : (encP p).length < 18446744073709551616) : dec (encP p) = some p := by
  have h1 := par_read (encP p).length p [] (Nat.le_refl _) h
  rw [List.append_nil] at h1
  unfold dec
  rw [h1]
theorem kidT_txts (ts : List (List UInt8)) : kidT (.lst (ts.map .txt)) = ts := by
  show (ts.map Pit.txt).map pitT = ts
  rw [List.map_map]
  exact List.map_id' ts
theorem wH_dec {g : Hd} (k : g.Ok) : dec (wH g) = some (.lst ((hTs g).map .txt)) := by
  have hl := wH_len k
  unfold wH at hl ⊢
  rw [lsB_enc] at hl ⊢
  exact dec_read (by omega)
theorem rd_form {b : List UInt8} (h : decE b ≠ 0 ∨ kidsN (decP b) ≠ 11) : RdHd b zH 1 := by
  refine .inr ⟨rfl, rfl, fun g k e => ?_⟩
  have hd := wH_dec k
  rw [e] at hd
  rcases h with h | h
  · exact h (by unfold decE; rw [hd]; rfl)
  · exact h (by unfold decP; rw [hd]; rfl)
theorem rd_not {nf : List UInt8 → Nat} (hf : ∀ x < 18446744073709551616, nf (numB x) = x) {b : List UInt8} (h : wH (rdH nf (kidT (decP b))) ≠ b) : RdHd b zH 1 := by
  refine .inr ⟨rfl, rfl, fun g k e => ?_⟩
  have hd := wH_dec k
  rw [e] at hd
  have hp : decP b = .lst ((hTs g).map .txt) := by unfold decP; rw [hd]; rfl
  rw [hp, kidT_txts, rdH_self hf k] at h
  exact h e
theorem rd_yes {b : List UInt8} {h : Hd} (e : wH h = b) : RdHd b h 0 := .inl ⟨rfl, e⟩
theorem nfP_lt (t : List UInt8) : nfP t < 18446744073709551616 := by unfold nfP lim; omega
theorem nfR_lt (t : List UInt8) : nfR t < 18446744073709551616 := by unfold nfR lim; omega
end Go.Proofs.Ytffkjjpjfehcnaa
