/- The names of operations: plain Lean. -/
import Derived.Test.YtkgfijdodbkkgaaDoorHex2
import Derived.Shelf.Strconv.Itoa3
set_option linter.unusedSimpArgs false
set_option linter.unusedVariables false
namespace Go.Proofs.YtkgfijdodbkkgaaDoor
open Go.RowKit
/-- the table's words -/
def words : List (List UInt8) := [[48, 48, 115, 116, 111, 112], [48, 49, 97, 100, 100], [48, 50, 109, 117, 108], [48, 51, 115, 117, 98], [48, 52, 100, 105, 118], [48, 53, 115, 100, 105, 118], [48, 54, 109, 111, 100], [48, 55, 115, 109, 111, 100], [48, 56, 97, 100, 100, 109, 111, 100], [48, 57, 109, 117, 108, 109, 111, 100], [48, 97, 101, 120, 112], [48, 98, 101, 120, 116, 101, 110, 100], [49, 48, 108, 116], [49, 49, 103, 116], [49, 50, 115, 108, 116], [49, 51, 115, 103, 116], [49, 52, 101, 113], [49, 53, 122, 101, 114, 111], [49, 54, 97, 110, 100], [49, 55, 111, 114], [49, 56, 120, 111, 114], [49, 57, 110, 111, 116], [49, 97, 98, 121, 116, 101], [49, 98, 115, 104, 108], [49, 99, 115, 104, 114], [49, 100, 115, 97, 114], [50, 48, 115, 117, 109], [51, 48, 115, 101, 108, 102], [51, 49, 109, 111, 110, 101, 121], [51, 50, 99, 97, 108, 108, 101, 114], [51, 51, 118, 97, 108, 117, 101], [51, 52, 105, 110, 119, 111, 114, 100], [51, 53, 105, 110, 115, 105, 122, 101], [51, 54, 105, 110, 99, 111, 112, 121], [51, 55, 99, 111, 100, 101, 115, 105, 122, 101], [51, 56, 98, 97, 99, 107, 115, 105, 122, 101], [51, 57, 98, 97, 99, 107, 99, 111, 112, 121], [52, 48, 116, 105, 109, 101], [52, 49, 110, 117, 109, 98, 101, 114], [52, 50, 107, 101, 101, 112, 101, 114], [53, 48, 112, 111, 112], [53, 49, 108, 111, 97, 100], [53, 50, 115, 116, 111, 114, 101], [53, 51, 115, 116, 111, 114, 101, 56], [53, 52, 115, 108, 111, 116], [53, 53, 107, 101, 101, 112], [53, 54, 106, 117, 109, 112], [53, 55, 98, 114, 97, 110, 99, 104], [53, 56, 112, 99], [53, 57, 115, 105, 122, 101], [53, 97, 103, 97, 115], [53, 98, 108, 97, 110, 100], [102, 48, 109, 97, 107, 101], [102, 49, 99, 97, 108, 108], [102, 50, 114, 101, 116, 117, 114, 110], [102, 51, 108, 111, 111, 107], [102, 52, 108, 101, 110, 100], [102, 100, 114, 101, 118, 101, 114, 116]]
def reckP (x : Nat) : List UInt8 :=
  if x = 0 then [115, 116, 111, 112] else
  if x = 1 then [97, 100, 100] else
  if x = 2 then [109, 117, 108] else
  if x = 3 then [115, 117, 98] else
  if x = 4 then [100, 105, 118] else
  if x = 5 then [115, 100, 105, 118] else
  if x = 6 then [109, 111, 100] else
  if x = 7 then [115, 109, 111, 100] else
  if x = 8 then [97, 100, 100, 109, 111, 100] else
  if x = 9 then [109, 117, 108, 109, 111, 100] else
  if x = 10 then [101, 120, 112] else
  if x = 11 then [101, 120, 116, 101, 110, 100] else
  if x = 16 then [108, 116] else
  if x = 17 then [103, 116] else
  if x = 18 then [115, 108, 116] else
  if x = 19 then [115, 103, 116] else
  if x = 20 then [101, 113] else
  if x = 21 then [122, 101, 114, 111] else
  if x = 22 then [97, 110, 100] else
  if x = 23 then [111, 114] else
  if x = 24 then [120, 111, 114] else
  if x = 25 then [110, 111, 116] else
  if x = 26 then [98, 121, 116, 101] else
  if x = 27 then [115, 104, 108] else
  if x = 28 then [115, 104, 114] else
  if x = 29 then [115, 97, 114] else
  []
def othP (x : Nat) : List UInt8 :=
  if x = 32 then [115, 117, 109] else
  if x = 48 then [115, 101, 108, 102] else
  if x = 49 then [109, 111, 110, 101, 121] else
  if x = 50 then [99, 97, 108, 108, 101, 114] else
  if x = 51 then [118, 97, 108, 117, 101] else
  if x = 52 then [105, 110, 119, 111, 114, 100] else
  if x = 53 then [105, 110, 115, 105, 122, 101] else
  if x = 54 then [105, 110, 99, 111, 112, 121] else
  if x = 55 then [99, 111, 100, 101, 115, 105, 122, 101] else
  if x = 56 then [98, 97, 99, 107, 115, 105, 122, 101] else
  if x = 57 then [98, 97, 99, 107, 99, 111, 112, 121] else
  if x = 64 then [116, 105, 109, 101] else
  if x = 65 then [110, 117, 109, 98, 101, 114] else
  if x = 66 then [107, 101, 101, 112, 101, 114] else
  if x = 80 then [112, 111, 112] else
  if x = 81 then [108, 111, 97, 100] else
  if x = 82 then [115, 116, 111, 114, 101] else
  if x = 83 then [115, 116, 111, 114, 101, 56] else
  if x = 84 then [115, 108, 111, 116] else
  if x = 85 then [107, 101, 101, 112] else
  if x = 86 then [106, 117, 109, 112] else
  if x = 87 then [98, 114, 97, 110, 99, 104] else
  if x = 88 then [112, 99] else
  if x = 89 then [115, 105, 122, 101] else
  if x = 90 then [103, 97, 115] else
  if x = 91 then [108, 97, 110, 100] else
  if x = 240 then [109, 97, 107, 101] else
  if x = 241 then [99, 97, 108, 108] else
  if x = 242 then [114, 101, 116, 117, 114, 110] else
  if x = 243 then [108, 111, 111, 107] else
  if x = 244 then [108, 101, 110, 100] else
  if x = 253 then [114, 101, 118, 101, 114, 116] else
  []
/-- what is numbered -/
def grp (x : Nat) : List UInt8 :=
  if 96 ≤ x ∧ x < 128 then [112, 117, 115, 104] ++ Lib.decDigits (x - 95)
  else if 128 ≤ x ∧ x < 144 then [100, 117, 112] ++ Lib.decDigits (x - 127)
  else if 144 ≤ x ∧ x < 160 then [115, 119, 97, 112] ++ Lib.decDigits (x - 143)
  else [108, 111, 103] ++ Lib.decDigits (x - 160)
def inGrp (x : Nat) : Bool := decide (96 ≤ x) && decide (x ≤ 162)
def nmP (x : Nat) : List UInt8 := if inGrp x = true then grp x else if x < 32 then reckP x else othP x
def hx (x : Nat) : List UInt8 := (printL [UInt8.ofNat x]).drop 2
def fw (x : Nat) : Option (List UInt8) := words.find? fun f => hx x == f.take 2
def lnP (x : Nat) : List UInt8 := match fw x with
  | some f => f.drop 2
  | none => if inGrp x = true then grp x else []
theorem key_names : (List.range 256).all (fun x => if inGrp x = true then (fw x).isNone else ((fw x).map (·.drop 2)).getD [] == (if x < 32 then reckP x else othP x)) = true := by kernel_rfl
theorem ln_nm (x : Nat) (h : x < 256) : lnP x = nmP x := by
  have := List.all_eq_true.1 key_names x (List.mem_range.2 h)
  by_cases hg : inGrp x = true
  · rw [if_pos hg] at this
    unfold lnP nmP
    rw [Option.isNone_iff_eq_none.1 this, if_pos hg]
    dsimp only
    rw [if_pos hg]
  · rw [if_neg hg, beq_iff_eq] at this
    have h2 : nmP x = ((fw x).map (·.drop 2)).getD [] := by unfold nmP; rw [if_neg hg, this]
    rw [h2]
    unfold lnP
    cases fw x with
    | none => dsimp only; rw [if_neg hg]; rfl
    | some f => rfl
end Go.Proofs.YtkgfijdodbkkgaaDoor
