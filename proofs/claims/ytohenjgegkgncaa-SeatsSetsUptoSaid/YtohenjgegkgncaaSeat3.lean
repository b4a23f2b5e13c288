/- The reference's VRight. -/
import Derived.Test.YtohenjgegkgncaaSeat2
set_option linter.unusedSimpArgs false
set_option linter.unusedVariables false
namespace Go.Proofs.Ytohenjgegkgncaa
open Go.RowKit
def okLen (n : Nat) : Bool := decide (0 < n) && decide (n ≤ 16)
def Done (l : List Nat) (i j : Nat) : Prop := (∀ p q, q < p → p < i → gv l q < gv l p) ∧ ∀ q, q < j → gv l q < gv l i
theorem Done.next {l : List Nat} {i j : Nat} : Done l i (j + 1) ↔ Done l i j ∧ gv l j < gv l i := by
  constructor
  · intro h; exact ⟨⟨h.1, fun q hq => h.2 q (by omega)⟩, h.2 j (by omega)⟩
  · intro h
    refine ⟨h.1.1, fun q hq => ?_⟩
    rcases Nat.lt_or_ge q j with h1 | h1
    · exact h.1.2 q h1
    · obtain rfl : q = j := by omega
      exact h.2
theorem Done.row {l : List Nat} {i : Nat} : Done l (i + 1) 0 ↔ Done l i i := by
  constructor
  · intro h; exact ⟨fun p q h1 h2 => h.1 p q h1 (by omega), fun q hq => h.1 i q hq (by omega)⟩
  · intro h
    refine ⟨fun p q h1 h2 => ?_, fun q hq => by omega⟩
    rcases Nat.lt_or_ge p i with h3 | h3
    · exact h.1 p q h1 h3
    · obtain rfl : p = i := by omega
      exact h.2 q h1
theorem Done.zero {l : List Nat} : Done l 0 0 := ⟨fun p q _ h => by omega, fun q h => by omega⟩
theorem Done.all {l : List Nat} : Done l l.length 0 ↔ Adj l := by
  rw [adj_all]
  constructor
  · intro h i j h1 h2; exact h.1 i j h1 h2
  · intro h; exact ⟨fun p q h1 h2 => h p q h1 h2, fun q hq => by omega⟩
theorem rightB_iff {l : List Nat} : rightB l = true ↔ okLen l.length = true ∧ Done l l.length 0 := by
  rw [Done.all]
  by_cases h : Adj l
  · rw [rightB_yes h]; simp [h, okLen]
  · rw [rightB_no h]; simp [h]
def Ok (n : Nat) (l : List Nat) (i j : Nat) (b : Bool) : Prop := b = true ↔ okLen n = true ∧ Done l i j
set_option maxHeartbeats 2000000 in
set_option maxRecDepth 100000 in
theorem vright_any (a : Option Addr) (n c : Nat) (l : List Nat) (hn : l.length = n) (hs : n ≤ 1048576) (w : World) (h : RowOf u64c 1 w (.slice a n c) l) : Calls Try.prog 30 #[.slice a n c] w fun e w' => e = .returned (.bool (rightB l)) ∧ Below w.heap.size w w' := by
  have hiff := rightB_iff (l := l)
  rw [hn] at hiff
  have Hn := Lib.hid hn
  obtain ⟨R, hR⟩ : ∃ R, R = rightB l := ⟨_, rfl⟩
  rw [← hR] at hiff
  rw [← hR]
  have HR : Hid (Ok n l n 0 R) := Lib.hid hiff
  clear hn hR hiff
  obtain ⟨b0, hb0⟩ : ∃ b0, b0 = okLen n := ⟨_, rfl⟩
  have hst : Ok n l 0 0 b0 := by rw [hb0]; exact ⟨fun h => ⟨h, Done.zero⟩, fun h => h.1⟩
  have Hst := Lib.hid hst
  have hcase : (decide ((1 : Int) ≤ (n : Int)) = false ∧ b0 = false ∧ ¬ (1 : Int) ≤ (n : Int)) ∨ (decide ((1 : Int) ≤ (n : Int)) = true ∧ (1 : Int) ≤ (n : Int) ∧ decide ((n : Int) ≤ 16) = b0) := by
    rw [hb0]
    unfold okLen
    by_cases h0 : 0 < n
    · right
      refine ⟨decide_eq_true (by omega), by omega, ?_⟩
      rw [decide_eq_true h0, Bool.true_and]
      by_cases h : n ≤ 16
      · rw [decide_eq_true h, decide_eq_true (by omega)]
      · rw [decide_eq_false h, decide_eq_false (by omega)]
    · left
      refine ⟨decide_eq_false (by omega), by simp [h0], by omega⟩
  clear hst hb0
  have key : ∀ (b0' : Bool), b0' = b0 → Hid (Ok n l 0 0 b0') := fun b hb => by subst hb; exact Hst
  rcases hcase with ⟨d1, rfl, d2⟩ | ⟨d1, d2, d3⟩
  all_goals
    clear key
    go_enter Try.func30, Try.ntmps30
    go_wp2
    go_loopw [3, 16] (fun bv ix wr => ∃ (i : Nat) (b : Bool), i ≤ n ∧ ix = .int .i64 (i : Int) ∧ bv = .bool b ∧ Below w.heap.size w wr ∧ Hid (Ok n l i 0 b)) (fun _ ix _ => n - (intOf ix).toNat)
    case atStart => exact ⟨0, _, by omega, rfl, rfl, Below.refl _ _, Hst⟩
    case round =>
      obtain ⟨i, b, hi, rfl, rfl, hbel, Hok⟩ := hrel
      by_cases hlt : i < n
      · have hii : (i : Int) < (n : Int) := by omega
        go_wp2
        go_loopw [3, 20] (fun bv jx wr => ∃ (j : Nat) (b : Bool), j ≤ i ∧ jx = .int .i64 (j : Int) ∧ bv = .bool b ∧ Below w.heap.size w wr ∧ Hid (Ok n l i j b)) (fun _ jx _ => i - (intOf jx).toNat)
        case atStart => exact ⟨0, _, by omega, rfl, rfl, hbel, Hok⟩
        case round =>
          clear hbel Hok
          obtain ⟨j, b, hj, rfl, rfl, hbel, Hok⟩ := hrel
          by_cases hjt : j < i
          · have hji : (j : Int) < (i : Int) := by omega
            have hjn : (j : Int) < (n : Int) := by omega
            have hjn' : j < n := by omega
            cases b with
            | false =>
              have hok2 : Ok n l i (j + 1) false := by
                have := Hok.out
                unfold Ok at this ⊢
                rw [Done.next]
                constructor
                · intro h; simp at h
                · intro h; exact this.2 ⟨h.1, h.2.1⟩
              have Hok2 := Lib.hid hok2
              clear hok2
              go_wp2
              refine wp_region_typed wr 12 (by kernel_rfl) (by kernel_rfl) (Below.refl _ _) ?_; simp only [List.take_succ_cons, List.take_zero, List.take_nil]
              iterate 12 (refine wpX_step (by rfl) (fun K hK => ?_); go_simp; first | (refine hK _ ?_; clear hK K) | (apply Exists.intro; refine ⟨fun _ => ?_, hK _ ?_⟩; fail; clear hK K))
              refine wpX_nil ?_
              intro u2 hb2
              have hbel2 := Below.then hbel hb2
              change wpList _ _ _ [_] _ _
              go_wp2
              go_roundw
              case rel => exact ⟨j + 1, _, by omega, by go_num, rfl, hbel2, Hok2⟩
              case measure => simp [intOf]; omega
            | true =>
              obtain ⟨q, off, rfl, hc1⟩ := u64_at (h.below hbel) j (by rw [Hn.out]; omega)
              obtain ⟨q', off', e', hc2⟩ := u64_at (h.below hbel) i (by rw [Hn.out]; omega)
              simp only [Option.some.injEq, Addr.mk.injEq, and_true] at e'
              obtain ⟨rfl, rfl⟩ := e'
              obtain ⟨x, hx⟩ : ∃ x, x = gv l j := ⟨_, rfl⟩
              obtain ⟨y, hy⟩ : ∃ y, y = gv l i := ⟨_, rfl⟩
              rw [← hx] at hc1
              rw [← hy] at hc2
              have f1 := fun u : Ext wr => u.cell hc1
              have f2 := fun u : Ext wr => u.cell hc2
              obtain ⟨r, hr⟩ : ∃ r, r = decide (x < y) := ⟨_, rfl⟩
              have hd : decide ((x : Int) < (y : Int)) = r := by
                rw [hr]
                by_cases h : x < y
                · rw [decide_eq_true h, decide_eq_true (by omega)]
                · rw [decide_eq_false h, decide_eq_false (by omega)]
              have hok2 : Ok n l i (j + 1) r := by
                have := Hok.out
                unfold Ok at this ⊢
                rw [Done.next, hr, decide_eq_true_eq, hx, hy]
                constructor
                · intro h; exact ⟨(this.1 rfl).1, (this.1 rfl).2, h⟩
                · intro h; exact h.2.2
              have Hok2 := Lib.hid hok2
              have hrn : decide (x < y) = r := hr.symm
              clear hok2 hx hy hc1 hc2 hr
              go_wp2
              refine wp_region_typed wr 12 (by kernel_rfl) (by kernel_rfl) (Below.refl _ _) ?_; simp only [List.take_succ_cons, List.take_zero, List.take_nil]
              iterate 12 (refine wpX_step (by rfl) (fun K hK => ?_); go_simp; first | (refine hK _ ?_; clear hK K) | (apply Exists.intro; refine ⟨fun _ => ?_, hK _ ?_⟩; fail; clear hK K))
              refine wpX_nil ?_
              intro u2 hb2
              have hbel2 := Below.then hbel hb2
              change wpList _ _ _ [_] _ _
              clear f1 f2 hd hrn
              go_wp2
              go_roundw
              case rel => exact ⟨j + 1, _, by omega, by go_num, rfl, hbel2, Hok2⟩
              case measure => simp [intOf]; omega
          · obtain rfl : j = i := by omega
            have hok2 : Ok n l (j + 1) 0 b := by
              have := Hok.out
              unfold Ok at this ⊢
              rw [Done.row]; exact this
            have Hok2 := Lib.hid hok2
            clear hok2
            go_wp2
            go_roundw
            case rel => exact ⟨j + 1, _, by omega, by go_num, rfl, hbel, Hok2⟩
            case measure => simp [intOf]; omega
      · obtain rfl : i = n := by omega
        have hRb : R = b := by
          have h1 := HR.out
          have h2 := Hok.out
          unfold Ok at h1 h2
          rw [Bool.eq_iff_iff, h1, h2]
        subst hRb
        go_wp2
        go_ret
        exact ⟨rfl, hbel⟩
end Go.Proofs.Ytohenjgegkgncaa
