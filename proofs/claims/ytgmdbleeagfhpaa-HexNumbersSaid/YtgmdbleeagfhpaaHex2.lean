/- The reference's XPrint. -/
import Derived.Test.YtgmdbleeagfhpaaHex1
set_option linter.unusedSimpArgs false
set_option linter.unusedVariables false
namespace Go.Proofs.Ytgmdbleeagfhpaa
open Go.RowKit
theorem encode_small (x : UInt8) (h : x.toNat < 128) : Utf8.encode (x.toNat : Int) = ⟨#[x]⟩ := by
  have key : ∀ n : Fin 128, Utf8.encode ((n.val : Nat) : Int) = ⟨#[UInt8.ofNat n.val]⟩ := by decide
  have := key ⟨x.toNat, h⟩
  simpa using this
theorem hexd_lo (t : UInt8) (h : t.toNat < 10) : (48 : Int) + (t.toNat : Int) = ((hexd t).toNat : Int) ∧ (hexd t).toNat < 128 := by
  unfold hexd; rw [if_pos h, UInt8.toNat_add, show (48 : UInt8).toNat = 48 from rfl]; omega
theorem hexd_hi (t : UInt8) (h : ¬ t.toNat < 10) (h16 : t.toNat < 16) : (97 : Int) + (t.toNat : Int) - 10 = ((hexd t).toNat : Int) ∧ (hexd t).toNat < 128 := by
  unfold hexd; rw [if_neg h, UInt8.toNat_add, show (87 : UInt8).toNat = 87 from rfl]; omega
theorem str_snoc (l : List UInt8) (x : UInt8) : Value.string (⟨l.toArray⟩ ++ ⟨#[x]⟩ : ByteArray) = str (l ++ [x]) := by
  unfold str; congr 1
end Go.Proofs.Ytgmdbleeagfhpaa
