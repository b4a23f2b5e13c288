/- Hashes as lists of 32 bytes: '==', parts. -/
import Derived.Test.YtnhbfnegpjkojaaSumA
import Derived.Test.YtnhbfnegpjkojaaHashQ
set_option linter.unusedSimpArgs false
set_option linter.unusedVariables false
namespace Go.Proofs.Ytnhbfnegpjkojaa
open Go.RowKit
theorem sumB_len (l : List UInt8) : (sumB l).length = 32 := by unfold sumB; rw [outB_len]
/-- the cells of bytes that are there -/
theorem bytes_range {w : World} {a : Option Addr} {n c : Nat} {l : List UInt8} (h : Bytes w (.slice a n c) l) (hl : 0 < l.length) : ∃ b off, a = some ⟨b, off, none⟩ ∧ w.rangeAt b off (l.map u8v) := by
  obtain ⟨b, off, ha, _⟩ := Bytes.at h 0 hl
  refine ⟨b, off, ha, fun j v hv => ?_⟩
  have hj : j < l.length := by have := (List.getElem?_eq_some_iff.1 hv).1; simpa using this
  obtain ⟨b', off', ha', hc⟩ := Bytes.at h j hj
  rw [ha] at ha'
  cases ha'
  rw [hc]
  rw [List.getElem?_map, List.getElem?_eq_getElem hj] at hv
  exact hv
/-- 'h[:]' -/
theorem blk_bytes {e : TypeId} {w : World} {g : Nat} {L : List UInt8} (h : Blk e w g (L.map u8v)) (n : Nat) (hL : L.length = n) (hn : n ≤ maxLen) : Bytes w (.slice (some ⟨g, 0, none⟩) n n) L := by
  refine Blk.row h L n n (fun _ => rfl) hL (fun j u hu => ?_) (Nat.le_refl _) hn
  rw [flat_b8] at hu; exact hu
theorem u8v_one (L : List UInt8) : ∀ u ∈ L.map u8v, u.oneCell' = true := by
  intro u hu
  obtain ⟨x, _, rfl⟩ := List.mem_map.1 hu
  rfl
end Go.Proofs.Ytnhbfnegpjkojaa
