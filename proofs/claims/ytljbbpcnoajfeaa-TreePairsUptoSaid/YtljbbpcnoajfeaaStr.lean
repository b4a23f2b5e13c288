/- Strings as lists of bytes: parts, places. -/
import Derived.Test.YtljbbpcnoajfeaaBase
set_option linter.unusedSimpArgs false
set_option linter.unusedVariables false
namespace Go.Proofs.Ytljbbpcnoajfeaa
open Go.RowKit
section
variable {P : Program} {t : TypeId} (ht : P.underlying t = some .string) (l : List UInt8)
theorem ba_ext (a b : ByteArray) (h : a.data.toList = b.data.toList) : a = b := by
  cases a; cases b; rw [ByteArray.mk.injEq]; exact Array.toList_inj.1 h
theorem ba_cut (lo hi : Nat) : ((⟨l.toArray⟩ : ByteArray).extract lo hi) = ⟨((l.take hi).drop lo).toArray⟩ := by
  apply ba_ext
  simp [ByteArray.data_extract, List.extract_eq_take_drop]
  rw [List.drop_take]
include ht in
/-- 's[lo:]' -/
theorem str_from (lo : Nat) (x : Int) (hx : x = lo) (h : lo ≤ l.length) : ∀ (k : IntKind) (w : World), (Instr.slice t (.string ⟨l.toArray⟩) (some (.int k x)) none none).run P w = .ok (.string ⟨(l.drop lo).toArray⟩) w := by
  intro k w
  subst hx
  have := run_slice_string_l (P := P) w t (⟨l.toArray⟩ : ByteArray) ht k (lo : Int) (by omega) (by show (lo : Int) ≤ (l.toArray.size : Int); simp; omega)
  rw [this, ba_cut]
  congr 4
  show (l.take l.toArray.size).drop _ = _
  simp
include ht in
/-- 's[:hi]' -/
theorem str_to (hi : Nat) (x : Int) (hx : x = hi) (h : hi ≤ l.length) : ∀ (k : IntKind) (w : World), (Instr.slice t (.string ⟨l.toArray⟩) none (some (.int k x)) none).run P w = .ok (.string ⟨(l.take hi).toArray⟩) w := by
  intro k w
  subst hx
  have := run_slice_string_h (P := P) w t (⟨l.toArray⟩ : ByteArray) ht k (hi : Int) (by omega) (by show (hi : Int) ≤ (l.toArray.size : Int); simp; omega)
  rw [this, ba_cut]
  simp
include ht in
/-- 's[i]' -/
theorem str_at (i : Nat) (x : Int) (hx : x = i) (c : UInt8) (h : l[i]? = some c) : ∀ (k : IntKind) (w : World), (Instr.index t (.string ⟨l.toArray⟩) (.int k x)).run P w = .ok (.int .u8 (c.toNat : Int)) w := by
  intro k w
  subst hx
  have hi := (List.getElem?_eq_some_iff.1 h).1
  rw [run_index_string w t (⟨l.toArray⟩ : ByteArray) k (i : Int) ht]
  have hs : (⟨l.toArray⟩ : ByteArray).size = l.length := by show l.toArray.size = _; simp
  rw [dif_pos ⟨by omega, by rw [hs]; omega⟩]
  congr 3
  have : (⟨l.toArray⟩ : ByteArray)[(i : Int).toNat]'(by rw [hs]; omega) = l[i] := by
    show l.toArray[i] = _
    simp
  rw [this, (List.getElem?_eq_some_iff.1 h).2]
end
theorem str_size (l : List UInt8) : (⟨l.toArray⟩ : ByteArray).size = l.length := by show l.toArray.size = _; simp
end Go.Proofs.Ytljbbpcnoajfeaa
