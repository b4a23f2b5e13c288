/- What XParseNumber comes to: plain laws. No program in sight. -/
import Derived.Test.YtgmdbleeagfhpaaHexN3
import Derived.Test.YtgmdbleeagfhpaaNib4
set_option linter.unusedSimpArgs false
set_option linter.unusedVariables false
namespace Go.Proofs.Ytgmdbleeagfhpaa
open Go.RowKit
/-- the text that is parsed in its place -/
def padS (L : List UInt8) : List UInt8 := 48 :: 120 :: (List.replicate (66 - L.length) 48 ++ L.drop 2)
theorem padS_len (L : List UInt8) (h3 : 3 ≤ L.length) (h66 : L.length ≤ 66) : (padS L).length = 66 := by simp [padS]; omega
theorem okH_iff (L : List UInt8) : okH L = true ↔ 2 ≤ L.length ∧ ∀ i (h : i < L.length), fineP i L[i] := by unfold okH; rw [decide_eq_true_eq]
theorem fine_up (i : Nat) (x : UInt8) (h : 2 ≤ i) : fineP i x ↔ (dg x).toNat < 16 := by
  unfold fineP
  rw [if_neg (by omega), if_neg (by omega)]
theorem okH_cons (a b : UInt8) (t : List UInt8) : okH (a :: b :: t) = true ↔ a = 48 ∧ b = 120 ∧ ∀ x ∈ t, (dg x).toNat < 16 := by
  rw [okH_iff]
  constructor
  · rintro ⟨_, h⟩
    refine ⟨h 0 (by simp), h 1 (by simp), fun x hx => ?_⟩
    obtain ⟨i, hi, rfl⟩ := List.getElem_of_mem hx
    have := h (i + 2) (by simp; omega)
    exact (fine_up _ _ (by omega)).1 this
  · rintro ⟨rfl, rfl, h⟩
    refine ⟨by simp, fun i hi => ?_⟩
    match i, hi with
    | 0, _ => exact rfl
    | 1, _ => exact rfl
    | i + 2, hi =>
      rw [fine_up _ _ (by omega)]
      exact h _ (List.getElem_mem (by simpa using hi))
theorem dg_48 : dg 48 = 0 := by decide
theorem pad_ok (L : List UInt8) : okH (padS L) = true ↔ ∀ x ∈ L.drop 2, (dg x).toNat < 16 := by
  unfold padS
  rw [okH_cons]
  constructor
  · rintro ⟨_, _, h⟩ x hx
    exact h x (List.mem_append.2 (.inr hx))
  · intro h
    refine ⟨rfl, rfl, fun x hx => ?_⟩
    rcases List.mem_append.1 hx with hx | hx
    · obtain rfl := (List.mem_replicate.1 hx).2
      rw [dg_48]; decide
    · exact h x hx
theorem valF_zeros (n : Nat) (l : List UInt8) : valD (List.replicate n 0 ++ l) = valD l := by
  induction n with
  | zero => rfl
  | succ n ih => rw [List.replicate_succ, List.cons_append, valD_zero, ih]
/-- the number of the padded text is the text's -/
theorem pad_val (L : List UInt8) (h3 : 3 ≤ L.length) (h66 : L.length ≤ 66) (h : okH (padS L) = true) :
    parseOk (padS L) = true ∧ (parseR (padS L)).length = 32 ∧ numL (parseR (padS L)) = valD ((L.drop 2).map dg) := by
  have hl := padS_len L h3 h66
  have hp : parseOk (padS L) = true := by unfold parseOk; rw [h, hl]; rfl
  have hR := (parse_yes hp).1
  have hd : ((padS L).drop 2).map dg = List.replicate (66 - L.length) 0 ++ (L.drop 2).map dg := by
    show (List.replicate (66 - L.length) 48 ++ L.drop 2).map dg = _
    rw [List.map_append, List.map_replicate, dg_48]
  have hj : joinOk (((padS L).drop 2).map dg) = true := by
    have h1 : wrongB (((padS L).drop 2).map dg) = false := by
      unfold wrongB
      rw [List.any_eq_false]
      intro x hx
      obtain ⟨j, hj, rfl⟩ := List.getElem_of_mem hx
      have := okH_dg h j hj
      rw [decide_eq_true_eq]; omega
    unfold joinOk
    rw [h1, List.length_map, List.length_drop, hl]; rfl
  refine ⟨hp, ?_, ?_⟩
  · rw [hR, joinL_len, List.length_map, List.length_drop, hl]
  · rw [hR, ← valD_halves, halves_join _ hj, hd, valF_zeros]
theorem pad_no (L : List UInt8) (h : okH (padS L) = false) : parseOk (padS L) = false := by unfold parseOk; rw [h]; rfl
theorem map_hexd_dg (t : List UInt8) (h : ∀ x ∈ t, (dg x).toNat < 16) : (t.map dg).map hexd = t := by
  rw [List.map_map]
  conv => rhs; rw [← List.map_id t]
  apply List.map_congr_left
  intro x hx
  exact hexd_dg x (h x hx)
theorem map_dg_hexd (t : List UInt8) (h : ∀ x ∈ t, x.toNat < 16) : (t.map hexd).map dg = t := by
  rw [List.map_map]
  conv => rhs; rw [← List.map_id t]
  apply List.map_congr_left
  intro x hx
  exact dg_hexd x (h x hx)
theorem canon_dec (R : List UInt8) (h64 : R.length ≤ 64) (hs : ∀ x ∈ R, x.toNat < 16) : (1 ≤ R.length ∧ R.length ≤ 64 ∧ (R.length = 1 ∨ R.head? ≠ some 0)) ↔ Canon R := by
  constructor
  · rintro ⟨h1, _, h3⟩
    exact ⟨by rintro rfl; simp at h1, hs, h3⟩
  · rintro ⟨h1, _, h3⟩
    exact ⟨Nat.pos_of_ne_zero (fun e => h1 (List.eq_nil_of_length_eq_zero e)), h64, h3⟩
/-- the text is its number's form just where it is a number's form -/
theorem form_iff (L : List UInt8) (h3 : 3 ≤ L.length) (h66 : L.length ≤ 66) (h : ∀ x ∈ L.drop 2, (dg x).toNat < 16) : (numS (valD ((L.drop 2).map dg)) == L) = nOk L := by
  have hlen : ((L.drop 2).map dg).length ≤ 64 := by rw [List.length_map, List.length_drop]; omega
  have hsm : ∀ x ∈ (L.drop 2).map dg, x.toNat < 16 := by
    intro x hx
    obtain ⟨y, hy, rfl⟩ := List.mem_map.1 hx
    exact h y hy
  rw [Bool.eq_iff_iff, beq_iff_eq]
  match L, h3 with
  | a :: b :: t, _ =>
    simp only [List.drop_succ_cons, List.drop_zero] at h hlen hsm ⊢
    constructor
    · intro e
      unfold numS at e
      simp only [List.cons.injEq] at e
      obtain ⟨rfl, rfl, e⟩ := e
      have hc := (num_canon _ _ (Nat.le_refl (valD (t.map dg)))).1
      have hR : t.map dg = numD (valD (t.map dg)) := by
        conv => lhs; rw [← e]
        exact map_dg_hexd _ hc.2.1
      rw [← hR] at hc
      have hok : okH (48 :: 120 :: t) = true := (okH_cons _ _ _).2 ⟨rfl, rfl, h⟩
      unfold nOk
      rw [hok, Bool.true_and, decide_eq_true_eq, halfR_yes hok]
      exact (canon_dec _ hlen hsm).2 hc
    · intro e
      unfold nOk at e
      rw [Bool.and_eq_true, decide_eq_true_eq] at e
      obtain ⟨hok, hc⟩ := e
      rw [halfR_yes hok] at hc
      obtain ⟨rfl, rfl, _⟩ := (okH_cons _ _ _).1 hok
      have := canon_num _ _ rfl ((canon_dec _ hlen hsm).1 hc)
      unfold numS
      rw [this, map_hexd_dg t h]
/-- no number's form -/
theorem form_no (L : List UInt8) (h : L.length < 3 ∨ 66 < L.length ∨ okH (padS L) = false) : nOk L = false := by
  cases hok : okH L with
  | false => unfold nOk; rw [hok]; rfl
  | true =>
    have hl : (halfR L).length = L.length - 2 := by rw [halfR_yes hok, List.length_map, List.length_drop]
    unfold nOk
    rw [hok, Bool.true_and, decide_eq_false_iff_not, hl]
    rintro ⟨h1, h2, _⟩
    rcases h with h | h | h
    · omega
    · omega
    · have := (okH_iff L).1 hok
      have h4 : okH (padS L) = true := (pad_ok L).2 (by
        match L, this.1 with
        | a :: b :: t, _ => exact ((okH_cons a b t).1 hok).2.2)
      rw [h4] at h; cases h
end Go.Proofs.Ytgmdbleeagfhpaa
