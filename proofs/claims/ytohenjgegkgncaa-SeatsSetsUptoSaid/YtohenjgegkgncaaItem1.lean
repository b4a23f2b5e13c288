/- pack.Text, pack.List and the reference's; lists of items of the call's own. -/
import Derived.Test.YtohenjgegkgncaaEnc6
import Derived.Test.YtohenjgegkgncaaItem0
set_option linter.unusedSimpArgs false
set_option linter.unusedVariables false
namespace Go.Proofs.Ytohenjgegkgncaa
open Go.RowKit
/-- a text as an item -/
def txt (v : Value) (t : List UInt8) : Itm := .mk false v t (.slice none 0 0) []
theorem IsItm.txt {w : World} {v : Value} {t : List UInt8} (h : Bytes w v t) : IsItm w (txt v t) := .mk false v t _ [] h (RowOf.nil icells 3 w) (by simp)
theorem encI_txt (v : Value) (t : List UInt8) : encI (txt v t) = textB t := by unfold txt encI; rw [if_neg (by simp)]
theorem bulk_txt (v : Value) (t : List UInt8) : bulkI (txt v t) = 1 + t.length := by unfold txt bulkI bulkL; omega
/-- a list of texts, as an item of the call's own making -/
def lst (kv : Value) (ks : List Itm) : Itm := .mk true (.slice none 0 0) [] kv ks
theorem IsItm.lst {w : World} {kv : Value} {ks : List Itm} (h : RowOf icells 3 w kv ks) (hi : ∀ k ∈ ks, IsItm w k) : IsItm w (lst kv ks) := .mk true _ [] kv ks (RowOf.nil b8 1 w) h hi
theorem encI_lst (kv : Value) (ks : List Itm) : encI (lst kv ks) = headB 192 (encL ks).length ++ encL ks := by unfold lst encI; rw [if_pos rfl]
theorem bulk_lst (kv : Value) (ks : List Itm) : bulkI (lst kv ks) = 1 + bulkL ks := by unfold lst bulkI; simp
/-- a list of texts, written -/
def lsB (ts : List (List UInt8)) : List UInt8 := headB 192 (ts.flatMap textB).length ++ ts.flatMap textB
def txts (ps : List (Value × List UInt8)) : List Itm := ps.map fun p => txt p.1 p.2
theorem encL_txts (ps : List (Value × List UInt8)) : encL (txts ps) = (ps.map (·.2)).flatMap textB := by
  induction ps with
  | nil => simp [txts, encL]
  | cons p ps ih =>
    have e : txts (p :: ps) = txt p.1 p.2 :: txts ps := rfl
    rw [e, encL, encI_txt, ih]; simp
theorem encI_lst_txts (kv : Value) (ps : List (Value × List UInt8)) : encI (lst kv (txts ps)) = lsB (ps.map (·.2)) := by
  rw [encI_lst, encL_txts]; rfl
theorem bulkL_txts (ps : List (Value × List UInt8)) : bulkL (txts ps) = (ps.map fun p => 1 + p.2.length).sum := by
  induction ps with
  | nil => simp [txts, bulkL]
  | cons p ps ih =>
    have e : txts (p :: ps) = txt p.1 p.2 :: txts ps := rfl
    rw [e, bulkL, bulk_txt, ih]; simp
theorem txts_is {w : World} {ps : List (Value × List UInt8)} (h : ∀ p ∈ ps, Bytes w p.1 p.2) : ∀ k ∈ txts ps, IsItm w k := by
  intro k hk
  obtain ⟨p, hp, rfl⟩ := List.mem_map.1 hk
  exact IsItm.txt (h p hp)
end Go.Proofs.Ytohenjgegkgncaa
