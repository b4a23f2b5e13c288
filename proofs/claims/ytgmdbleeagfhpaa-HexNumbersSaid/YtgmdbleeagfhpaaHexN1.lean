/- Numbers by sixteens: plain laws. No program in sight. -/
import Derived.Test.YtgmdbleeagfhpaaHex5
import Derived.Test.YtgmdbleeagfhpaaWord6
set_option linter.unusedSimpArgs false
set_option linter.unusedVariables false
namespace Go.Proofs.Ytgmdbleeagfhpaa
open Go.RowKit
/-- the number that these digits make, the greatest first -/
def valF (v : Nat) (l : List UInt8) : Nat := l.foldl (fun v d => 16 * v + d.toNat) v
def valD (l : List UInt8) : Nat := valF 0 l
theorem valF_cons (v : Nat) (x : UInt8) (l : List UInt8) : valF v (x :: l) = valF (16 * v + x.toNat) l := rfl
theorem valF_app (v : Nat) (a b : List UInt8) : valF v (a ++ b) = valF (valF v a) b := by unfold valF; rw [List.foldl_append]
theorem valD_snoc (l : List UInt8) (x : UInt8) : valD (l ++ [x]) = 16 * valD l + x.toNat := by unfold valD; rw [valF_app]; rfl
theorem valF_ge (l : List UInt8) : ∀ v, v ≤ valF v l := by
  induction l with
  | nil => intro v; exact Nat.le_refl _
  | cons x l ih => intro v; rw [valF_cons]; have := ih (16 * v + x.toNat); omega
theorem valD_zero (l : List UInt8) : valD (0 :: l) = valD l := by unfold valD; rw [valF_cons]; rfl
theorem valF_lt (l : List UInt8) (h : ∀ x ∈ l, x.toNat < 16) : ∀ v, valF v l < (v + 1) * 16 ^ l.length := by
  induction l with
  | nil => intro v; simp [valF]
  | cons x l ih =>
    intro v
    rw [valF_cons]
    have h1 := ih (fun y hy => h y (List.mem_cons_of_mem _ hy)) (16 * v + x.toNat)
    have hx := h x (List.mem_cons_self ..)
    refine Nat.lt_of_lt_of_le h1 ?_
    rw [List.length_cons, Nat.pow_succ, Nat.mul_comm (16 ^ l.length) 16, ← Nat.mul_assoc]
    exact Nat.mul_le_mul_right _ (by omega)
/-- the digits of a number, without noughts ahead -/
def numD (N : Nat) : List UInt8 := if N < 16 then [UInt8.ofNat N] else numD (N / 16) ++ [UInt8.ofNat (N % 16)]
termination_by N
decreasing_by omega
theorem numD_small {N : Nat} (h : N < 16) : numD N = [UInt8.ofNat N] := by rw [numD, if_pos h]
theorem numD_big {N : Nat} (h : ¬ N < 16) : numD N = numD (N / 16) ++ [UInt8.ofNat (N % 16)] := by rw [numD, if_neg h]
theorem ofNat_nat {n : Nat} (h : n < 256) : (UInt8.ofNat n).toNat = n := by rw [UInt8.toNat_ofNat']; omega
theorem ofNat_to (x : UInt8) : UInt8.ofNat x.toNat = x := by apply UInt8.toNat_inj.1; rw [ofNat_nat x.toNat_lt]
def Canon (l : List UInt8) : Prop := l ≠ [] ∧ (∀ x ∈ l, x.toNat < 16) ∧ (l.length = 1 ∨ l.head? ≠ some 0)
theorem valD_pos {l : List UInt8} (h : l ≠ []) (h0 : l.head? ≠ some 0) : 1 ≤ valD l := by
  match l, h with
  | x :: l, _ =>
    have hx : x.toNat ≠ 0 := fun e => h0 (by rw [List.head?_cons, show x = 0 from UInt8.toNat_inj.1 e])
    have := valF_ge l (16 * 0 + x.toNat)
    unfold valD
    rw [valF_cons]
    omega
theorem head_app {a b : List UInt8} (h : a ≠ []) : (a ++ b).head? = a.head? := by
  match a, h with
  | x :: a, _ => rfl
theorem canon_num : ∀ (n : Nat) (l : List UInt8), l.length = n → Canon l → numD (valD l) = l := by
  intro n
  induction n with
  | zero => intro l hl h; exact absurd (List.eq_nil_of_length_eq_zero hl) h.1
  | succ n ih =>
    intro l hl ⟨h1, h2, h3⟩
    obtain ⟨a, x, rfl⟩ : ∃ a x, l = a ++ [x] := ⟨l.dropLast, l.getLast h1, (List.dropLast_concat_getLast h1).symm⟩
    have hx := h2 x (by simp)
    rw [valD_snoc]
    by_cases ha : a = []
    · subst ha
      rw [show valD [] = 0 from rfl, Nat.mul_zero, Nat.zero_add, numD_small hx, ofNat_to]; rfl
    · have hlen : 1 ≤ a.length := by cases a with
        | nil => exact absurd rfl ha
        | cons y a => simp
      have hh : a.head? ≠ some 0 := by
        rcases h3 with h3 | h3
        · rw [List.length_append, List.length_singleton] at h3; omega
        · rwa [head_app ha] at h3
      have hp := valD_pos ha hh
      rw [numD_big (show ¬ (16 * valD a + x.toNat < 16) by omega), show (16 * valD a + x.toNat) / 16 = valD a from by omega, show (16 * valD a + x.toNat) % 16 = x.toNat from by omega, ofNat_to]
      rw [ih a (by simpa using hl) ⟨ha, fun y hy => h2 y (by simp [hy]), .inr hh⟩]
theorem num_canon : ∀ (n N : Nat), N ≤ n → Canon (numD N) ∧ valD (numD N) = N ∧ (1 ≤ N → (numD N).head? ≠ some 0) := by
  intro n
  induction n with
  | zero =>
    intro N hN
    obtain rfl : N = 0 := by omega
    rw [numD_small (by omega)]
    exact ⟨⟨by simp, by simp, .inl rfl⟩, rfl, fun h => by omega⟩
  | succ n ih =>
    intro N hN
    by_cases h : N < 16
    · rw [numD_small h]
      refine ⟨⟨by simp, fun x hx => ?_, .inl rfl⟩, ?_, fun h1 e => ?_⟩
      · obtain rfl := List.mem_singleton.1 hx
        rw [ofNat_nat (by omega)]; exact h
      · show 16 * 0 + (UInt8.ofNat N).toNat = N
        rw [ofNat_nat (by omega)]; omega
      · have e2 := congrArg UInt8.toNat (Option.some.inj e)
        rw [ofNat_nat (by omega)] at e2
        have : (0 : UInt8).toNat = 0 := rfl
        omega
    · obtain ⟨⟨c1, c2, c3⟩, c4, c5⟩ := ih (N / 16) (by omega)
      rw [numD_big h]
      have hh := c5 (by omega)
      refine ⟨⟨by simp, fun x hx => ?_, .inr (by rw [head_app c1]; exact hh)⟩, ?_, fun _ => by rw [head_app c1]; exact hh⟩
      · rcases List.mem_append.1 hx with hx | hx
        · exact c2 x hx
        · obtain rfl := List.mem_singleton.1 hx
          rw [ofNat_nat (by omega)]; omega
      · rw [valD_snoc, c4, ofNat_nat (by omega)]; omega
/-- noughts ahead are struck -/
def strip : List UInt8 → List UInt8
  | x :: y :: l => if x = 0 then strip (y :: l) else x :: y :: l
  | l => l
theorem strip_canon (l : List UInt8) (h : l ≠ []) (hd : ∀ x ∈ l, x.toNat < 16) : Canon (strip l) ∧ valD (strip l) = valD l := by
  induction l using strip.induct with
  | case1 y l ih =>
    have hs : strip (0 :: y :: l) = strip (y :: l) := by rw [strip, if_pos rfl]
    rw [hs, valD_zero]
    exact ih (by simp) (fun x hx => hd x (List.mem_cons_of_mem _ hx))
  | case2 x y l hx =>
    have hs : strip (x :: y :: l) = x :: y :: l := by rw [strip, if_neg hx]
    rw [hs]
    exact ⟨⟨by simp, hd, .inr (by simpa using hx)⟩, rfl⟩
  | case3 l hl =>
    have hs : strip l = l := by
      match l, hl with
      | [], _ => rfl
      | [x], _ => rfl
      | x :: y :: l, hl => exact (hl x y l rfl).elim
    rw [hs]
    refine ⟨⟨h, hd, .inl ?_⟩, rfl⟩
    match l, h, hl with
    | [x], _, _ => rfl
    | x :: y :: l, _, hl => exact (hl x y l rfl).elim
theorem strip_num (l : List UInt8) (h : l ≠ []) (hd : ∀ x ∈ l, x.toNat < 16) : strip l = numD (valD l) := by
  obtain ⟨h1, h2⟩ := strip_canon l h hd
  rw [← h2, canon_num _ _ rfl h1]
theorem halves_mem {b : List UInt8} {x : UInt8} (hx : x ∈ halvesL b) : x.toNat < 16 := by
  unfold halvesL at hx
  obtain ⟨y, _, hy⟩ := List.mem_flatMap.1 hx
  have hl := y.toNat_lt
  simp only [halfB, List.mem_cons, List.not_mem_nil, or_false] at hy
  rcases hy with rfl | rfl
  · rw [UInt8.toNat_div, show (16 : UInt8).toNat = 16 from rfl]; omega
  · rw [UInt8.toNat_mod, show (16 : UInt8).toNat = 16 from rfl]; omega
theorem hexL_halves (b : List UInt8) : hexL b = (halvesL b).map hexd := by
  unfold hexL halvesL
  rw [List.map_flatMap]
  rfl
theorem halves_snoc' (l : List UInt8) (x : UInt8) : halvesL (l ++ [x]) = halvesL l ++ [x / 16] ++ [x % 16] := by rw [halves_snoc]; simp
theorem valD_halves (b : List UInt8) : valD (halvesL b) = numL b := by
  have : ∀ n (b : List UInt8), b.length = n → valD (halvesL b) = numL b := by
    intro n
    induction n with
    | zero => intro b hb; obtain rfl := List.eq_nil_of_length_eq_zero hb; rfl
    | succ n ih =>
      intro b hb
      have hne : b ≠ [] := by rintro rfl; simp at hb
      obtain ⟨a, x, rfl⟩ : ∃ a x, b = a ++ [x] := ⟨b.dropLast, b.getLast hne, (List.dropLast_concat_getLast hne).symm⟩
      rw [halves_snoc', valD_snoc, valD_snoc, ih a (by simpa using hb), numL_snoc, UInt8.toNat_div, UInt8.toNat_mod, show (16 : UInt8).toNat = 16 from rfl]
      omega
  exact this _ b rfl
/-- the digits of a word's bytes, without noughts ahead -/
theorem strip_word (N : Nat) (hN : N < W256) : strip (halvesL (wb N)) = numD N := by
  rw [strip_num _ (by intro h; have := halves_len (wb N); rw [h, wb_len] at this; simp at this) (fun x hx => halves_mem hx), valD_halves, numL_wb N hN]
/-- what a number is printed as -/
def numS (N : Nat) : List UInt8 := 48 :: 120 :: (numD N).map hexd
theorem hexd_nought (x : UInt8) (h : x.toNat < 16) : hexd x = 48 ↔ x = 0 := by
  constructor
  · intro e
    have : dg (hexd x) = x := dg_hexd x h
    rw [← this, e]; rfl
  · rintro rfl; rfl
theorem numD_len (N : Nat) : 1 ≤ (numD N).length := by
  have := (num_canon N N (Nat.le_refl _)).1.1
  cases h : numD N with
  | nil => exact absurd h this
  | cons x l => simp
theorem numD_zero_div {N : Nat} (h : N / 16 = 0) : numD N = [UInt8.ofNat (N % 16)] := by
  rw [numD_small (by omega), Nat.mod_eq_of_lt (by omega)]
end Go.Proofs.Ytgmdbleeagfhpaa
