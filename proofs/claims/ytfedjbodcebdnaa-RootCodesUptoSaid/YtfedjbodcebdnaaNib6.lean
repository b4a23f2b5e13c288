/- nib.Tag and the reference's NTag. -/
import Derived.Test.YtfedjbodcebdnaaNib5
set_option linter.unusedSimpArgs false
set_option linter.unusedVariables false
namespace Go.Proofs.Ytfedjbodcebdnaa
open Go.RowKit
theorem tag_no {p : List UInt8} {leaf : Bool} (h : wrongB p = true) : joinE (tagL p leaf) = 1 ∧ joinR (tagL p leaf) = [] := join_no (by rw [tagL_ok, h]; rfl)
theorem tagL_odd {p : List UInt8} {leaf : Bool} (h : p.length % 2 = 1) : tagL p leaf = [if leaf then 3 else 1] ++ p := by
  unfold tagL
  rw [tagH_odd h]
  congr 2
  apply UInt8.toNat_inj.1
  rw [tagF_nat]; unfold tagN; rw [h]; cases leaf <;> rfl
theorem tagL_even {p : List UInt8} {leaf : Bool} (h : p.length % 2 = 0) : tagL p leaf = [if leaf then 2 else 0, 0] ++ p := by
  unfold tagL
  rw [tagH_even (by omega)]
  congr 2
  apply UInt8.toNat_inj.1
  rw [tagF_nat]; unfold tagN; rw [h]; cases leaf <;> rfl
theorem join_l (a : Option Addr) (n c : Nat) (l : List UInt8) (hn : l.length = n) (w : World) (h : Bytes w (.slice a n c) l) (hl : n ≤ 140737488355328) :
    Calls Try.prog 119 #[.slice a n c] w fun e w' => ∃ v, e = .returned (.tuple #[v, .int .i64 (joinE l)]) ∧ Bytes w' v (joinR l) ∧ Below w.heap.size w w' := by
  subst hn
  exact (join_any a c l w h hl).mono fun e w' ⟨v, h1, h2, h3⟩ => ⟨v, h1, h2.row, h3⟩
theorem njoin_l (a : Option Addr) (n c : Nat) (l : List UInt8) (hn : l.length = n) (w : World) (h : Bytes w (.slice a n c) l) (hl : n ≤ 140737488355328) :
    Calls Try.prog 120 #[.slice a n c] w fun e w' => ∃ v, e = .returned (.tuple #[v, .int .i64 (joinE l)]) ∧ Bytes w' v (joinR l) ∧ Below w.heap.size w w' := by
  subst hn
  exact (njoin_any a c l w h hl).mono fun e w' ⟨v, h1, h2, h3⟩ => ⟨v, h1, h2.row, h3⟩
theorem wrong_l (a : Option Addr) (n c : Nat) (l : List UInt8) (b : Bool) (hn : l.length = n) (hb : wrongB l = b) (w : World) (h : Bytes w (.slice a n c) l) :
    Calls Try.prog 118 #[.slice a n c] w fun e w' => e = .returned (.bool b) ∧ w = w' := by
  subst hn; subst hb; exact wrong_any a c l w h
set_option maxHeartbeats 400000 in
set_option maxRecDepth 100000 in
theorem tag_any (a : Option Addr) (n c : Nat) (p : List UInt8) (leaf : Bool) (hn : p.length = n) (w : World) (h : Bytes w (.slice a n c) p) (hl : n + 2 ≤ 140737488355328) :
    Calls Try.prog 105 #[.slice a n c, .bool leaf] w fun e w' => ∃ v, e = .returned (.tuple #[v, .int .i64 (joinE (tagL p leaf))]) ∧ Bytes w' v (joinR (tagL p leaf)) ∧ Below w.heap.size w w' := by
  cases hw : wrongB p with
  | true =>
    obtain ⟨e1, e2⟩ := tag_no (leaf := leaf) hw
    rw [e1, e2]
    have Hw := Lib.hid hw
    have Hn := Lib.hid hn
    clear hw hn e1 e2
    go_enter Try.func105, Try.ntmps105
    go_wp2_with (go_at_call 118; (with_reducible refine (wrong_l a n c p true Hn.out Hw.out _ h).mono ?_); rintro e w1 ⟨rfl, rfl⟩)
    go_ret2
    exact ⟨_, rfl, RowOf.nil _ _ _, Below.refl _ _⟩
  | false =>
    have Hw := Lib.hid hw
    have Hn := Lib.hid hn
    rcases Nat.mod_two_eq_zero_or_one n with hm | hm
    · have ht : (n : Int) % 2 = 0 := by omega
      have hT := tagL_even (leaf := leaf) (show p.length % 2 = 0 by omega)
      obtain ⟨T, hTT⟩ : ∃ T, T = tagL p leaf := ⟨_, rfl⟩
      rw [← hTT] at hT ⊢
      have HT := Lib.hid hT
      clear hw hn hT hTT
      have hb2 : bits .or .u8 0 2 = 2 := by decide
      have own0 := fun (x : UInt8) (y : Int) (hy : (x.toNat : Int) = y) => (OwnOf.made b8 1 5 w w.heap.size [x] #[.int .u8 y] 1 (by rw [← hy]; rfl) rfl rfl (Nat.le_refl _) (by decide)).alloc (.cells #[.int .u8 0] 5)
      have o0 := own0 0 0 rfl
      have o2 := own0 2 2 rfl
      have r0 := fun y : Int => (show RowOf b8 1 ((w.alloc (.cells #[.int .u8 y] 5)).alloc (.cells #[.int .u8 0] 5)) (.slice (some ⟨w.heap.size + 1, 0, none⟩) 1 1) [(0 : UInt8)] from by
        have := RowOf.one b8 1 (w.alloc (.cells #[.int .u8 y] 5)) (0 : UInt8) #[.int .u8 0] 5 rfl rfl
        simpa using this)
      have b0 := fun y : Int => ((Below.refl w.heap.size w).alloc (Nat.le_refl _) (.cells #[.int .u8 y] 5)).alloc (by simp) (.cells #[.int .u8 0] 5)
      clear own0
      cases leaf
      all_goals
        go_enter Try.func105, Try.ntmps105
        go_wp2_with (first
          | (go_at_call 118; (with_reducible refine (wrong_l a n c p false Hn.out Hw.out _ h).mono ?_); rintro e w1 ⟨rfl, rfl⟩)
          | (at_builtin; refine wpList_app (by rfl) (.tmp 23) (.tmp 24) 34 (by rfl) elU8 (by rfl) (by first | exact o0 | exact o2) (by rfl) (r0 _) (b0 _) (by simp; omega) (by simp) (by simp [maxLen]) ?_; intro v2 w2 hv2 hg2 _ hB2; obtain ⟨a2, c2, rfl, _⟩ := hv2.form' 2 rfl)
          | (at_builtin; refine wpList_app (by rfl) (.tmp 26) (.tmp 27) 34 (by rfl) elU8 (by rfl) hv2 (by rfl) (h.below hg2) hg2 hB2 (by have := Hn.out; simp; omega) (by have := Hn.out; simp [maxLen]; omega) ?_; intro v3 w3 hv3 hg3 _ hB3; obtain ⟨a3, c3, rfl, _⟩ := hv3.form' (2 + n) (by have := Hn.out; simp; omega))
          | (go_at_call 119; (with_reducible refine (join_l a3 (2 + n) c3 _ (by have := Hn.out; simp; omega) _ hv3.row (by omega)).mono ?_); rintro e w4 ⟨v4, rfl, h4, b4⟩; have hb4 := hg3.trans (b4.mono hB3)))
        go_ret2
        exact ⟨_, by rw [HT.out]; rfl, by rw [HT.out]; exact h4, hb4⟩
    · have ht : (n : Int) % 2 = 1 := by omega
      have hT := tagL_odd (leaf := leaf) (show p.length % 2 = 1 by omega)
      obtain ⟨T, hTT⟩ : ∃ T, T = tagL p leaf := ⟨_, rfl⟩
      rw [← hTT] at hT ⊢
      have HT := Lib.hid hT
      clear hw hn hT hTT
      have hb2 : bits .or .u8 1 2 = 3 := by decide
      have own0 := fun (x : UInt8) (y : Int) (hy : (x.toNat : Int) = y) => (OwnOf.made b8 1 5 w w.heap.size [x] #[.int .u8 y] 1 (by rw [← hy]; rfl) rfl rfl (Nat.le_refl _) (by decide))
      have o0 := own0 1 1 rfl
      have o2 := own0 3 3 rfl
      have b0 := fun y : Int => (Below.refl w.heap.size w).alloc (Nat.le_refl _) (.cells #[.int .u8 y] 5)
      clear own0
      cases leaf
      all_goals
        go_enter Try.func105, Try.ntmps105
        go_wp2_with (first
          | (go_at_call 118; (with_reducible refine (wrong_l a n c p false Hn.out Hw.out _ h).mono ?_); rintro e w1 ⟨rfl, rfl⟩)
          | (at_builtin; refine wpList_app (by rfl) (.tmp 26) (.tmp 27) 34 (by rfl) elU8 (by rfl) (by first | exact o0 | exact o2) (by rfl) (h.below (b0 _)) (b0 _) (by simp) (by have := Hn.out; simp; omega) (by have := Hn.out; simp [maxLen]; omega) ?_; intro v3 w3 hv3 hg3 _ hB3; obtain ⟨a3, c3, rfl, _⟩ := hv3.form' (1 + n) (by have := Hn.out; simp; omega))
          | (go_at_call 119; (with_reducible refine (join_l a3 (1 + n) c3 _ (by have := Hn.out; simp; omega) _ hv3.row (by omega)).mono ?_); rintro e w4 ⟨v4, rfl, h4, b4⟩; have hb4 := hg3.trans (b4.mono hB3)))
        go_ret2
        exact ⟨_, by rw [HT.out]; rfl, by rw [HT.out]; exact h4, hb4⟩
end Go.Proofs.Ytfedjbodcebdnaa
