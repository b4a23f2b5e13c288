/- Filters as sets of bits: plain Lean, no program in sight. -/
import Derived.Test.YtljbbpcnoajfeaaBase
set_option linter.unusedSimpArgs false
set_option linter.unusedVariables false
namespace Go.Proofs.Ytljbbpcnoajfeaa
/-- has a filter that bit? -/
def fb (L : List UInt8) (n : Nat) : Bool := (L[n / 8]?.getD 0).toNat.testBit (n % 8)
def orF (L : List UInt8) (n : Nat) : List UInt8 := L.set (n / 8) (UInt8.ofNat ((L[n / 8]?.getD 0).toNat ||| 2 ^ (n % 8)))
theorem or_lt (x : UInt8) (r : Nat) (hr : r < 8) : x.toNat ||| 2 ^ r < 256 := by
  have h1 := x.toNat_lt
  have h2 : 2 ^ r < 2 ^ 8 := Nat.pow_lt_pow_right (by omega) hr
  exact Nat.or_lt_two_pow (n := 8) h1 h2
theorem orF_len (L : List UInt8) (n : Nat) : (orF L n).length = L.length := by simp [orF]
theorem fb_or (L : List UInt8) (n m : Nat) (hl : L.length = 32) (hn : n < 256) : fb (orF L n) m = (fb L m || decide (m = n)) := by
  unfold fb orF
  by_cases h : n / 8 = m / 8
  · rw [← h, List.getElem?_set_self (by omega)]
    simp only [Option.getD_some]
    rw [UInt8.toNat_ofNat', Nat.mod_eq_of_lt (or_lt _ _ (Nat.mod_lt _ (by omega))), Nat.testBit_or, Nat.testBit_two_pow]
    congr 1
    have : (n % 8 = m % 8) ↔ (m = n) := by omega
    simp only [this]
  · rw [List.getElem?_set_ne h]
    have : ¬ (m = n) := fun e => h (by rw [e])
    simp [this]
theorem u8_ext (x y : UInt8) (h : ∀ j, j < 8 → x.toNat.testBit j = y.toNat.testBit j) : x = y := by
  apply UInt8.toNat_inj.1
  apply Nat.eq_of_testBit_eq
  intro j
  by_cases hj : j < 8
  · exact h j hj
  · rw [Nat.testBit_lt_two_pow (Nat.lt_of_lt_of_le x.toNat_lt (Nat.pow_le_pow_right (n := 2) (by omega) (show 8 ≤ j by omega))),
      Nat.testBit_lt_two_pow (Nat.lt_of_lt_of_le y.toNat_lt (Nat.pow_le_pow_right (n := 2) (by omega) (show 8 ≤ j by omega)))]
theorem fb_ext {L M : List UInt8} (hl : L.length = 32) (hm : M.length = 32) (h : ∀ m, m < 256 → fb L m = fb M m) : L = M := by
  apply List.ext_getElem (by rw [hl, hm])
  intro i h1 h2
  apply u8_ext
  intro j hj
  have := h (8 * i + j) (by omega)
  unfold fb at this
  rw [show (8 * i + j) / 8 = i from by omega, show (8 * i + j) % 8 = j from by omega, List.getElem?_eq_getElem h1, List.getElem?_eq_getElem h2] at this
  exact this
theorem add_or (x : UInt8) (r : Nat) (hr : r < 8) (h : x.toNat.testBit r = false) : x.toNat + 2 ^ r = x.toNat ||| 2 ^ r := by
  have key : ∀ (x : Fin 256) (r : Fin 8), x.val.testBit r.val = false → x.val + 2 ^ r.val = x.val ||| 2 ^ r.val := by decide +kernel
  exact key ⟨x.toNat, x.toNat_lt⟩ ⟨r, hr⟩ h
/-- the filter with just these bits -/
def mkF (b : Nat → Bool) (n : Nat) : List UInt8 := (List.range n).foldl (fun F k => if b k = true then orF F k else F) (List.replicate 32 0)
theorem mkF_succ (b : Nat → Bool) (n : Nat) : mkF b (n + 1) = if b n = true then orF (mkF b n) n else mkF b n := by
  unfold mkF; rw [List.range_succ, List.foldl_append]; rfl
theorem mkF_len (b : Nat → Bool) (n : Nat) : (mkF b n).length = 32 := by
  induction n with
  | zero => simp [mkF]
  | succ n ih => rw [mkF_succ]; split <;> simp [orF_len, ih]
theorem fb_zero (m : Nat) : fb (List.replicate 32 0) m = false := by
  unfold fb
  rw [List.getElem?_replicate]
  split <;> simp
theorem fb_mkF (b : Nat → Bool) (n : Nat) (hn : n ≤ 256) (m : Nat) : fb (mkF b n) m = (decide (m < n) && b m) := by
  induction n with
  | zero =>
    have e : mkF b 0 = List.replicate 32 0 := rfl
    rw [e, fb_zero]; simp
  | succ n ih =>
    rw [mkF_succ]
    by_cases hb : b n = true
    · rw [if_pos hb, fb_or _ _ _ (mkF_len _ _) (by omega), ih (by omega)]
      by_cases hm : m = n
      · subst hm; simp [hb]
      · have e : (m < n + 1) ↔ m < n := by omega
        simp [hm, e]
    · rw [if_neg hb, ih (by omega)]
      by_cases hm : m = n
      · subst hm; simp [hb]
      · have e : (m < n + 1) ↔ m < n := by omega
        simp [e]
theorem mkF_is {b : Nat → Bool} {F : List UInt8} (hl : F.length = 32) (h : ∀ m, m < 256 → fb F m = b m) : F = mkF b 256 :=
  fb_ext hl (mkF_len _ _) (fun m hm => by rw [fb_mkF b 256 (by omega), h m hm]; simp [hm])
theorem fb_test (L : List UInt8) (n : Nat) (x : UInt8) (h : L[n / 8]? = some x) : fb L n = decide (x.toNat / 2 ^ (n % 8) % 2 = 1) := by
  unfold fb; rw [h, Option.getD_some, Nat.testBit_eq_decide_div_mod_eq]
theorem orF_at (L : List UInt8) (n : Nat) (x : UInt8) (h : L[n / 8]? = some x) : orF L n = L.set (n / 8) (UInt8.ofNat (x.toNat ||| 2 ^ (n % 8))) := by
  unfold orF; rw [h, Option.getD_some]
end Go.Proofs.Ytljbbpcnoajfeaa
