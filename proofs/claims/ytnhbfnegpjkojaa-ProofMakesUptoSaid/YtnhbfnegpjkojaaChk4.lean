/- proof.Check. -/
import Derived.Test.YtnhbfnegpjkojaaChk2
import Derived.Test.YtnhbfnegpjkojaaHash
set_option linter.unusedSimpArgs false
set_option linter.unusedVariables false
namespace Go.Proofs.Ytnhbfnegpjkojaa
open Go.RowKit
theorem halves_lt (l : List UInt8) : ∀ x ∈ halvesL l, x.toNat < 16 := by
  intro x hx
  unfold halvesL at hx
  obtain ⟨y, _, hy⟩ := List.mem_flatMap.1 hx
  unfold halfB at hy
  have h256 := y.toNat_lt
  simp only [List.mem_cons, List.not_mem_nil, or_false] at hy
  rcases hy with rfl | rfl
  · rw [UInt8.toNat_div]
    show y.toNat / 16 < 16
    omega
  · rw [UInt8.toNat_mod]
    show y.toNat % 16 < 16
    omega
def chk (H key : List UInt8) (cs : List (List UInt8)) : List UInt8 × Int := if 32 < key.length then ([], 3) else shw H (halvesL key) true cs
def ShwPost (R : List UInt8 × Int) (w : World) (e : Ending) (w' : World) : Prop := ∃ (a : Option Addr) (n c : Nat), e = .returned (.tuple #[.slice a n c, .int .i64 R.2]) ∧ Below w.heap.size w w' ∧ Bytes w' (.slice a n c) R.1
structure StC (R : List UInt8 × Int) (CS : List (List UInt8)) (i : Nat) (pl sl vl : List UInt8) : Prop where
  h16 : ∀ x ∈ pl, x.toNat < 16
  hs : sl.length = 32 ∨ sl.length = 0
  hv : vl.length ≤ 1048576
  h0 : sl = [] → R = (vl, 0)
  h1 : sl ≠ [] → R = shw sl pl (decide (i = 0)) (CS.drop i)
theorem nxt_len {s : Shq} (ho : okQ s = true) {q : List UInt8} (hq : ∀ x ∈ q, x.toNat < 16) : (nxtP s q).1.length = 32 ∨ (nxtP s q).1.length = 0 := by
  rcases way_next ho q hq with ⟨_, h, _⟩ | ⟨k, _, _, _, _, _, _, h⟩
  · right; rw [h]; rfl
  · exact h
theorem nxt_val {s : Shq} {q : List UInt8} (hs : s.2.2.1.length ≤ 1048576) : (nxtP s q).2.2.length ≤ 1048576 := by
  unfold nxtP
  split
  · split
    · exact hs
    · simp
  · split
    · split <;> simp
    · split
      · cases q with
        | nil => exact hs
        | cons x q => simp
      · simp
/-- one round -/
theorem stc_step {R : List UInt8 × Int} {CS : List (List UInt8)} {i : Nat} {pl sl vl ct : List UInt8} (St : StC R CS i pl sl vl) (hne : sl ≠ []) (hi : CS[i]? = some ct) (hct : ct.length ≤ 1048576) :
    (sumB ct ≠ sl → R = ([], 4)) ∧ (sumB ct = sl → (rdB ct = none → R = ([], 1)) ∧ ∀ s, rdB ct = some s → (i ≠ 0 ∧ s.1 = 0 → R = ([], 1)) ∧
      (¬ (i ≠ 0 ∧ s.1 = 0) → ((nxtP s pl).1 = [] → i + 1 < CS.length → R = ([], 6)) ∧ (¬ ((nxtP s pl).1 = [] ∧ i + 1 < CS.length) → StC R CS (i + 1) (nxtP s pl).2.1 (nxtP s pl).1 (nxtP s pl).2.2))) := by
  have hlt := (List.getElem?_eq_some_iff.1 hi).1
  have hd : CS.drop i = ct :: CS.drop (i + 1) := by
    rw [List.drop_eq_getElem_cons hlt]
    rw [(List.getElem?_eq_some_iff.1 hi).2]
  have h1 := St.h1 hne
  rw [hd] at h1
  unfold shw at h1
  constructor
  · intro h
    rw [if_neg h] at h1
    exact h1
  · intro h
    rw [if_pos h] at h1
    constructor
    · intro hr
      rw [hr] at h1
      exact h1
    · intro s hr
      rw [hr] at h1
      dsimp only at h1
      have ho := rd_le hr hct
      constructor
      · rintro ⟨h2, h3⟩
        rw [if_pos ⟨by simpa using h2, h3⟩] at h1
        exact h1
      · intro h2
        rw [if_neg (fun e => h2 ⟨by simpa using e.1, e.2⟩)] at h1
        constructor
        · intro h3 h4
          have : CS.drop (i + 1) ≠ [] := fun e => by have := congrArg List.length e; rw [List.length_drop] at this; simp at this; omega
          rw [if_pos h3, if_neg this] at h1
          exact h1
        · intro h3
          refine ⟨nxt_rest St.h16, nxt_len ho.1 St.h16, nxt_val ho.2.2.1, fun h4 => ?_, fun h4 => ?_⟩
          · have : CS.drop (i + 1) = [] := List.drop_of_length_le (by have : ¬ i + 1 < CS.length := fun e => h3 ⟨h4, e⟩; omega)
            rw [if_pos h4, if_pos this] at h1
            exact h1
          · rw [if_neg h4] at h1
            rw [h1]
            congr 1
end Go.Proofs.Ytnhbfnegpjkojaa
