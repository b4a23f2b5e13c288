/- nib.Halves, Join and the reference's NHalves, NJoin. | nib.wrong, Join and the reference's NJoin. | The reference's NJoin. -/
import Derived.Test.YtkgfijdodbkkgaaDoorTabs
import Derived.Test.YtkgfijdodbkkgaaDoorBase
import Derived.StillTailTactics
/- (Nib2) nib.Halves, Join and the reference's NHalves, NJoin. -/
set_option linter.unusedSimpArgs false
set_option linter.unusedVariables false
namespace Go.Proofs.YtkgfijdodbkkgaaDoor
open Go.RowKit
/-- two halves of each byte -/
def halfB (x : UInt8) : List UInt8 := [x / 16, x % 16]
def halvesL (l : List UInt8) : List UInt8 := l.flatMap halfB
def joinL : List UInt8 → List UInt8
  | x :: y :: l => (x * 16 + y) :: joinL l
  | _ => []
def wrongB (l : List UInt8) : Bool := l.any fun x => decide (15 < x.toNat)
def joinOk (l : List UInt8) : Bool := l.length % 2 == 0 && !wrongB l
theorem halves_len (l : List UInt8) : (halvesL l).length = 2 * l.length := by
  induction l with
  | nil => rfl
  | cons x l ih => simp [halvesL, halfB] at ih ⊢; omega
theorem halves_snoc (l : List UInt8) (x : UInt8) : halvesL (l ++ [x]) = halvesL l ++ [x / 16, x % 16] := by simp [halvesL, halfB]
theorem bits_u8_15 (x : UInt8) : bits .and .u8 (x.toNat : Int) 15 = ((x % 16).toNat : Int) := by
  have h := x.toNat_lt
  have := u8_and_nat x.toNat 15 (by omega) (by omega)
  rw [show ((15 : Nat) : Int) = 15 from rfl] at this
  rw [this, UInt8.toNat_mod, nat_mask4]; rfl
theorem div_u8_16 (x : UInt8) : (x.toNat : Int) / 16 = ((x / 16).toNat : Int) := by
  rw [UInt8.toNat_div]; rfl
theorem mod_u8_16 (x : UInt8) : (x.toNat : Int) % 16 = ((x % 16).toNat : Int) := by
  rw [UInt8.toNat_mod]; rfl
theorem half_cells (x : UInt8) : [Value.int .u8 ((x.toNat : Int) / 16), Value.int .u8 ((x.toNat : Int) % 16)] = [x / 16, x % 16].flatMap b8 := by
  rw [div_u8_16, mod_u8_16]; rfl
theorem snoc_at (l : List UInt8) (k : Nat) (h : k < l.length) : l.take (k + 1) = l.take k ++ [l[k]] := by rw [List.take_succ_eq_append_getElem h]

theorem halves_at (l : List UInt8) : ∀ (i : Nat) (h : i < 2 * l.length), (halvesL l)[i]'(by rw [halves_len]; exact h) = if i % 2 = 1 then l[i / 2] % 16 else l[i / 2] / 16 := by
  induction l with
  | nil => intro i h; simp at h
  | cons x l ih =>
    intro i h
    have e : halvesL (x :: l) = x / 16 :: x % 16 :: halvesL l := by simp [halvesL, halfB]
    simp only [e]
    match i, h with
    | 0, _ => rfl
    | 1, _ => rfl
    | i + 2, h =>
      have h2 : i < 2 * l.length := by simp at h; omega
      simp only [List.getElem_cons_succ]
      rw [ih i h2]
      have e1 : (i + 2) % 2 = i % 2 := by omega
      have e2 : (i + 2) / 2 = i / 2 + 1 := by omega
      simp only [e1, e2, List.getElem_cons_succ]
end Go.Proofs.YtkgfijdodbkkgaaDoor
/- (Nib3) nib.wrong, Join and the reference's NJoin. -/
namespace Go.Proofs.YtkgfijdodbkkgaaDoor
open Go.RowKit
theorem wrong_false (l : List UInt8) (k : Nat) (h : ∀ j (hj : j < l.length), j < k → (l[j]).toNat ≤ 15) (hk : l.length ≤ k) : wrongB l = false := by
  unfold wrongB
  rw [List.any_eq_false]
  intro x hx
  obtain ⟨j, hj, rfl⟩ := List.getElem_of_mem hx
  have := h j hj (by omega)
  simp; omega
theorem wrong_true (l : List UInt8) (k : Nat) (hk : k < l.length) (hx : 15 < (l[k]).toNat) : wrongB l = true := by
  unfold wrongB
  rw [List.any_eq_true]
  exact ⟨l[k], List.getElem_mem hk, by simpa using hx⟩
theorem wrong_le (l : List UInt8) (h : wrongB l = false) (k : Nat) (hk : k < l.length) : (l[k]).toNat ≤ 15 := by
  unfold wrongB at h
  rw [List.any_eq_false] at h
  have := h l[k] (List.getElem_mem hk)
  simpa using this
def joinE (l : List UInt8) : Int := if joinOk l then 0 else 1
def joinR (l : List UInt8) : List UInt8 := if joinOk l then joinL l else []
theorem join_yes {l : List UInt8} (h : joinOk l = true) : joinE l = 0 ∧ joinR l = joinL l := by unfold joinE joinR; simp [h]
theorem join_no {l : List UInt8} (h : joinOk l = false) : joinE l = 1 ∧ joinR l = [] := by unfold joinE joinR; simp [h]
theorem join_take (l : List UInt8) : ∀ (i : Nat) (h : 2 * i + 1 < l.length), joinL (l.take (2 * i + 2)) = joinL (l.take (2 * i)) ++ [l[2 * i] * 16 + l[2 * i + 1]] := by
  induction l using joinL.induct with
  | case1 x y l ih =>
    intro i h
    cases i with
    | zero => simp [joinL]
    | succ i =>
      have e1 : 2 * (i + 1) + 2 = (2 * i + 2) + 2 := by omega
      have e2 : 2 * (i + 1) = 2 * i + 2 := by omega
      simp only [e1, e2, List.take_succ_cons, joinL, List.cons_append, List.getElem_cons_succ]
      rw [ih i (by simp at h; omega)]
  | case2 l hl =>
    intro i h
    exfalso
    match l, hl with
    | [], _ => simp at h
    | [x], _ => simp at h
    | x :: y :: l, hl => exact hl x y l rfl
theorem joinL_le (l : List UInt8) : 2 * (joinL l).length ≤ l.length := by
  induction l using joinL.induct with
  | case1 x y l ih => simp [joinL]; omega
  | case2 l hl =>
    match l, hl with
    | [], _ => simp [joinL]
    | [x], _ => simp [joinL]
    | x :: y :: l, hl => exact (hl x y l rfl).elim
theorem join_bits (x y : UInt8) (hx : x.toNat ≤ 15) (hy : y.toNat ≤ 15) : bits .or .u8 ((x.toNat : Int) * 16) (y.toNat : Int) = ((x * 16 + y).toNat : Int) := by
  have h := u8_or_nat (x.toNat * 16) y.toNat (by omega) (by omega)
  rw [Int.natCast_mul] at h
  rw [show ((16 : Nat) : Int) = 16 from rfl] at h
  rw [h, nat_join 4 _ _ (by omega) (by omega)]
  have : (x * 16 + y).toNat = x.toNat * 16 + y.toNat := by
    rw [UInt8.toNat_add, UInt8.toNat_mul, show (16 : UInt8).toNat = 16 from rfl]; omega
  rw [this]
end Go.Proofs.YtkgfijdodbkkgaaDoor
/- (Nib4) The reference's NJoin. -/
namespace Go.Proofs.YtkgfijdodbkkgaaDoor
open Go.RowKit
theorem half_le (x : UInt8) : (x / 16).toNat ≤ 15 ∧ (x % 16).toNat ≤ 15 := by
  have := x.toNat_lt
  rw [UInt8.toNat_div, UInt8.toNat_mod, show (16 : UInt8).toNat = 16 from rfl]; omega
theorem halves_wrong (l : List UInt8) : wrongB (halvesL l) = false := by
  unfold wrongB
  rw [List.any_eq_false]
  intro x hx
  unfold halvesL at hx
  obtain ⟨y, _, hy⟩ := List.mem_flatMap.1 hx
  have := half_le y
  simp only [halfB, List.mem_cons, List.not_mem_nil, or_false] at hy
  rcases hy with rfl | rfl
  · have := this.1; rw [decide_eq_true_eq]; omega
  · have := this.2; rw [decide_eq_true_eq]; omega
theorem halves_join (l : List UInt8) (h : joinOk l = true) : halvesL (joinL l) = l := by
  induction l using joinL.induct with
  | case1 x y l ih =>
    unfold joinOk at h ih
    simp only [wrongB, List.length_cons, List.any_cons, Bool.and_eq_true, Bool.not_eq_true', Bool.or_eq_false_iff, decide_eq_false_iff_not, beq_iff_eq] at h ih
    have ih' := ih ⟨by omega, h.2.2.2⟩
    have hx : x.toNat ≤ 15 := by omega
    have hy : y.toNat ≤ 15 := by omega
    have e1 : (x * 16 + y) / 16 = x := by
      apply UInt8.toNat_inj.1
      rw [UInt8.toNat_div, UInt8.toNat_add, UInt8.toNat_mul, show (16 : UInt8).toNat = 16 from rfl]; omega
    have e2 : (x * 16 + y) % 16 = y := by
      apply UInt8.toNat_inj.1
      rw [UInt8.toNat_mod, UInt8.toNat_add, UInt8.toNat_mul, show (16 : UInt8).toNat = 16 from rfl]; omega
    have : halvesL (joinL (x :: y :: l)) = (x * 16 + y) / 16 :: (x * 16 + y) % 16 :: halvesL (joinL l) := by simp [joinL, halvesL, halfB]
    rw [this, e1, e2, ih']
  | case2 l hl =>
    match l, hl with
    | [], _ => rfl
    | [x], _ => simp [joinOk] at h
    | x :: y :: l, hl => exact (hl x y l rfl).elim
theorem halves_join_not (l : List UInt8) (h : joinOk l = false) : halvesL (joinL l) ≠ l := by
  intro e
  have h1 := halves_wrong (joinL l)
  have h2 := halves_len (joinL l)
  rw [e] at h1 h2
  unfold joinOk at h
  rw [h1, h2] at h
  simp at h
theorem joinL_len (l : List UInt8) : (joinL l).length = l.length / 2 := by
  induction l using joinL.induct with
  | case1 x y l ih => simp [joinL]; omega
  | case2 l hl =>
    match l, hl with
    | [], _ => rfl
    | [x], _ => simp [joinL]
    | x :: y :: l, hl => exact (hl x y l rfl).elim
theorem joinL_at (l : List UInt8) : ∀ (i : Nat) (h : 2 * i + 1 < l.length), (joinL l)[i]? = some (l[2 * i] * 16 + l[2 * i + 1]) := by
  induction l using joinL.induct with
  | case1 x y l ih =>
    intro i h
    cases i with
    | zero => simp [joinL]
    | succ i =>
      have e1 : 2 * (i + 1) = 2 * i + 2 := by omega
      simp only [joinL, List.getElem?_cons_succ, e1, List.getElem_cons_succ]
      exact ih i (by simp at h; omega)
  | case2 l hl =>
    intro i h
    exfalso
    match l, hl with
    | [], _ => simp at h
    | [x], _ => simp at h
    | x :: y :: l, hl => exact hl x y l rfl
theorem join_wrap (x y : UInt8) : IntKind.u8.wrap (IntKind.u8.wrap ((x.toNat : Int) * 16) + (y.toNat : Int)) = ((x * 16 + y).toNat : Int) := by
  rw [IntKind.wrap_u8', IntKind.wrap_u8', UInt8.toNat_add, UInt8.toNat_mul, show (16 : UInt8).toNat = 16 from rfl]; omega
end Go.Proofs.YtkgfijdodbkkgaaDoor
