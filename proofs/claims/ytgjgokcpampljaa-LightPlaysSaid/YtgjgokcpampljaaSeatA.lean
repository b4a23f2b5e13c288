/- seats.Right and the reference's. | The reference's VRight. -/
import Derived.Test.YtgjgokcpampljaaBase
import Derived.Test.YtgjgokcpampljaaTabs
/- (Seat2) seats.Right and the reference's. -/
set_option linter.unusedSimpArgs false
set_option linter.unusedVariables false
namespace Go.Proofs.Ytgjgokcpampljaa
open Go.RowKit
/-- a number as an element's cell -/
def u64c (x : Nat) : List Value := [.int .u64 (x : Int)]
def gv (l : List Nat) (i : Nat) : Nat := l[i]?.getD 0
def Adj (l : List Nat) : Prop := ∀ k, k + 1 < l.length → gv l k < gv l (k + 1)
def AllLt (l : List Nat) : Prop := ∀ i j, j < i → i < l.length → gv l j < gv l i
theorem adj_all (l : List Nat) : Adj l ↔ AllLt l := by
  constructor
  · intro h i
    induction i with
    | zero => intro j hj; omega
    | succ i ih =>
      intro j hj hi
      have h1 := h i hi
      rcases Nat.lt_or_ge j i with h2 | h2
      · exact Nat.lt_trans (ih j h2 (by omega)) h1
      · obtain rfl : j = i := by omega
        exact h1
  · intro h k hk
    exact h (k + 1) k (by omega) hk
open Classical in
/-- can there be such seats? -/
noncomputable def rightB (l : List Nat) : Bool := decide (Adj l) && (decide (0 < l.length) && decide (l.length ≤ 16))
theorem rightB_no {l : List Nat} (h : ¬ Adj l) : rightB l = false := by unfold rightB; simp [h]
theorem rightB_yes {l : List Nat} (h : Adj l) : rightB l = (decide (0 < l.length) && decide (l.length ≤ 16)) := by unfold rightB; simp [h]
theorem u64_at {w : World} {a : Option Addr} {n c : Nat} {l : List Nat} (h : RowOf u64c 1 w (.slice a n c) l) (k : Nat) (hk : k < l.length) :
    ∃ b off, a = some ⟨b, off, none⟩ ∧ w.cell? ⟨b, off + k, none⟩ = some (.int .u64 (gv l k : Int)) := by
  obtain ⟨b, off, ha, hc⟩ := RowOf.cells (f := u64c) (size := 1) (fun _ => rfl) h k hk
  exact ⟨b, off, ha, by simpa [u64c, gv, List.getElem?_eq_getElem hk] using hc 0 _ rfl⟩
set_option maxHeartbeats 1000000 in
set_option maxRecDepth 100000 in
theorem right_any (a : Option Addr) (n c : Nat) (l : List Nat) (hn : l.length = n) (hs : n ≤ 17592186044416) (w : World) (h : RowOf u64c 1 w (.slice a n c) l) : Calls Try.prog 72 #[.slice a n c] w fun e w' => e = .returned (.bool (rightB l)) ∧ Below w.heap.size w w' := by
  have Hn := Lib.hid hn
  obtain ⟨R, hR⟩ : ∃ R, R = rightB l := ⟨_, rfl⟩
  rw [← hR]
  have HR := Lib.hid hR
  clear hn hR
  go_enter Try.func72, Try.ntmps72
  go_wp2
  go_loopw [3] (fun ix wr => ∃ k : Nat, 1 ≤ k ∧ (k ≤ n ∨ k = 1) ∧ ix = .int .i64 (k : Int) ∧ Below w.heap.size w wr ∧ Hid (∀ j, j + 1 < k → gv l j < gv l (j + 1))) (fun ix _ => n - (intOf ix).toNat)
  case atStart => exact ⟨1, by omega, .inr rfl, rfl, Below.refl _ _, Lib.hid (fun j hj => by omega)⟩
  case round =>
    obtain ⟨k, hk1, hkn, rfl, hbel, Hall⟩ := hrel
    by_cases hlt : k < n
    · have hki : (k : Int) < (n : Int) := by omega
      obtain ⟨k0, hk0⟩ : ∃ k0, k = k0 + 1 := ⟨k - 1, by omega⟩
      have hw : IntKind.i64.wrap ((k : Int) - 1) = (k0 : Int) := by rw [IntWalk.i64_in _ (by omega)]; omega
      have hw' : (k : Int) - 1 = (k0 : Int) := by omega
      have hw0 : IntKind.i64.wrap (k0 : Int) = (k0 : Int) := IntWalk.i64_in _ (by omega)
      obtain ⟨b, off, rfl, hc1⟩ := u64_at (h.below hbel) k0 (by rw [Hn.out]; omega)
      obtain ⟨b', off', e', hc2⟩ := u64_at (h.below hbel) k (by rw [Hn.out]; omega)
      simp only [Option.some.injEq, Addr.mk.injEq, and_true] at e'
      obtain ⟨rfl, rfl⟩ := e'
      obtain ⟨x, hx⟩ : ∃ x, x = gv l k0 := ⟨_, rfl⟩
      obtain ⟨y, hy⟩ : ∃ y, y = gv l k := ⟨_, rfl⟩
      rw [← hx] at hc1
      rw [← hy] at hc2
      have h0i : (k0 : Int) < (n : Int) := by omega
      have h0n : k0 < n := by omega
      have f1 := fun u : Ext wr => u.cell hc1
      have f2 := fun u : Ext wr => u.cell hc2
      have Hx := Lib.hid hx
      have Hy := Lib.hid hy
      have Hk0 := Lib.hid hk0
      clear hx hy hc1 hc2 hk0
      go_wp2
      refine wp_region_typed wr 9 (by kernel_rfl) (by kernel_rfl) (Below.refl _ _) ?_; simp only [List.take_succ_cons, List.take_zero, List.take_nil]
      iterate 9 (refine wpX_step (by rfl) (fun K hK => ?_); go_simp; first | (refine hK _ ?_; clear hK K) | (apply Exists.intro; refine ⟨fun _ => ?_, hK _ ?_⟩; fail; clear hK K))
      refine wpX_nil ?_
      intro u2 hb2
      have hbel2 := Below.then hbel hb2
      change wpList _ _ _ [_] _ _
      clear f1 f2
      by_cases hlt2 : x < y
      · have hd : decide ((y : Int) ≤ (x : Int)) = false := by rw [decide_eq_false_iff_not]; omega
        have hd' : decide (y ≤ x) = false := by rw [decide_eq_false_iff_not]; omega
        have hall2 : ∀ j, j + 1 < k + 1 → gv l j < gv l (j + 1) := fun j hj => by
          rcases Nat.lt_or_ge (j + 1) k with h1 | h1
          · exact Hall.out j h1
          · have e1 : j = k0 := by have := Hk0.out; omega
            rw [e1, ← Hk0.out, ← Hx.out, ← Hy.out]; exact hlt2
        have Hall2 := Lib.hid hall2
        clear hall2 hlt2
        go_wp2
        go_roundw
        case rel => exact ⟨k + 1, by omega, .inl (by omega), by go_num, hbel2, Hall2⟩
        case measure => simp [intOf]; omega
      · have hd : decide ((y : Int) ≤ (x : Int)) = true := by rw [decide_eq_true_eq]; omega
        have hd' : decide (y ≤ x) = true := by rw [decide_eq_true_eq]; omega
        have hRf : R = false := by
          rw [HR.out]
          refine rightB_no (fun h => hlt2 ?_)
          have := h k0 (by have := Hk0.out; have := Hn.out; omega)
          rw [← Hk0.out, ← Hx.out, ← Hy.out] at this; exact this
        subst hRf
        clear hlt2
        go_wp2
        go_ret
        exact ⟨rfl, hbel2⟩
    · have hRt : R = (decide (0 < n) && decide (n ≤ 16)) := by
        rw [HR.out, rightB_yes (fun j hj => Hall.out j (by have := Hn.out; omega)), Hn.out]
      have Hlt := Lib.hid hlt
      clear hlt
      have hki : ¬ (k : Int) < (n : Int) := by have := Hlt.out; omega
      by_cases h0 : 0 < n
      · have g1 : (0 : Int) < (n : Int) := by omega
        have g1d : decide ((0 : Int) < (n : Int)) = true := decide_eq_true g1
        have g1n : decide (0 < n) = true := decide_eq_true h0
        have hd : decide ((n : Int) ≤ 16) = R := by
          rw [hRt, g1n, Bool.true_and]
          by_cases h : n ≤ 16
          · rw [decide_eq_true h, decide_eq_true (by omega)]
          · rw [decide_eq_false h, decide_eq_false (by omega)]
        clear hRt
        go_wp2
        go_ret
        exact ⟨rfl, hbel⟩
      · obtain rfl : n = 0 := by omega
        have hRf : R = false := by rw [hRt]; rfl
        subst hRf
        clear hRt
        go_wp2
        go_ret
        exact ⟨rfl, hbel⟩
end Go.Proofs.Ytgjgokcpampljaa
/- (Seat3) The reference's VRight. -/
namespace Go.Proofs.Ytgjgokcpampljaa
open Go.RowKit
def okLen (n : Nat) : Bool := decide (0 < n) && decide (n ≤ 16)
def Done (l : List Nat) (i j : Nat) : Prop := (∀ p q, q < p → p < i → gv l q < gv l p) ∧ ∀ q, q < j → gv l q < gv l i
theorem Done.next {l : List Nat} {i j : Nat} : Done l i (j + 1) ↔ Done l i j ∧ gv l j < gv l i := by
  constructor
  · intro h; exact ⟨⟨h.1, fun q hq => h.2 q (by omega)⟩, h.2 j (by omega)⟩
  · intro h
    refine ⟨h.1.1, fun q hq => ?_⟩
    rcases Nat.lt_or_ge q j with h1 | h1
    · exact h.1.2 q h1
    · obtain rfl : q = j := by omega
      exact h.2
theorem Done.row {l : List Nat} {i : Nat} : Done l (i + 1) 0 ↔ Done l i i := by
  constructor
  · intro h; exact ⟨fun p q h1 h2 => h.1 p q h1 (by omega), fun q hq => h.1 i q hq (by omega)⟩
  · intro h
    refine ⟨fun p q h1 h2 => ?_, fun q hq => by omega⟩
    rcases Nat.lt_or_ge p i with h3 | h3
    · exact h.1 p q h1 h3
    · obtain rfl : p = i := by omega
      exact h.2 q h1
theorem Done.zero {l : List Nat} : Done l 0 0 := ⟨fun p q _ h => by omega, fun q h => by omega⟩
theorem Done.all {l : List Nat} : Done l l.length 0 ↔ Adj l := by
  rw [adj_all]
  constructor
  · intro h i j h1 h2; exact h.1 i j h1 h2
  · intro h; exact ⟨fun p q h1 h2 => h p q h1 h2, fun q hq => by omega⟩
theorem rightB_iff {l : List Nat} : rightB l = true ↔ okLen l.length = true ∧ Done l l.length 0 := by
  rw [Done.all]
  by_cases h : Adj l
  · rw [rightB_yes h]; simp [h, okLen]
  · rw [rightB_no h]; simp [h]
def Ok (n : Nat) (l : List Nat) (i j : Nat) (b : Bool) : Prop := b = true ↔ okLen n = true ∧ Done l i j
set_option maxHeartbeats 2000000 in
set_option maxRecDepth 100000 in
theorem vright_any (a : Option Addr) (n c : Nat) (l : List Nat) (hn : l.length = n) (hs : n ≤ 17592186044416) (w : World) (h : RowOf u64c 1 w (.slice a n c) l) : Calls Try.prog 20 #[.slice a n c] w fun e w' => e = .returned (.bool (rightB l)) ∧ Below w.heap.size w w' := by
  have hiff := rightB_iff (l := l)
  rw [hn] at hiff
  have Hn := Lib.hid hn
  obtain ⟨R, hR⟩ : ∃ R, R = rightB l := ⟨_, rfl⟩
  rw [← hR] at hiff
  rw [← hR]
  have HR : Hid (Ok n l n 0 R) := Lib.hid hiff
  clear hn hR hiff
  obtain ⟨b0, hb0⟩ : ∃ b0, b0 = okLen n := ⟨_, rfl⟩
  have hst : Ok n l 0 0 b0 := by rw [hb0]; exact ⟨fun h => ⟨h, Done.zero⟩, fun h => h.1⟩
  have Hst := Lib.hid hst
  have hcase : (decide ((1 : Int) ≤ (n : Int)) = false ∧ b0 = false ∧ ¬ (1 : Int) ≤ (n : Int)) ∨ (decide ((1 : Int) ≤ (n : Int)) = true ∧ (1 : Int) ≤ (n : Int) ∧ decide ((n : Int) ≤ 16) = b0) := by
    rw [hb0]
    unfold okLen
    by_cases h0 : 0 < n
    · right
      refine ⟨decide_eq_true (by omega), by omega, ?_⟩
      rw [decide_eq_true h0, Bool.true_and]
      by_cases h : n ≤ 16
      · rw [decide_eq_true h, decide_eq_true (by omega)]
      · rw [decide_eq_false h, decide_eq_false (by omega)]
    · left
      refine ⟨decide_eq_false (by omega), by simp [h0], by omega⟩
  clear hst hb0
  have key : ∀ (b0' : Bool), b0' = b0 → Hid (Ok n l 0 0 b0') := fun b hb => by subst hb; exact Hst
  rcases hcase with ⟨d1, rfl, d2⟩ | ⟨d1, d2, d3⟩
  all_goals
    clear key
    go_enter Try.func20, Try.ntmps20
    go_wp2
    go_loopw [3, 16] (fun bv ix wr => ∃ (i : Nat) (b : Bool), i ≤ n ∧ ix = .int .i64 (i : Int) ∧ bv = .bool b ∧ Below w.heap.size w wr ∧ Hid (Ok n l i 0 b)) (fun _ ix _ => n - (intOf ix).toNat)
    case atStart => exact ⟨0, _, by omega, rfl, rfl, Below.refl _ _, Hst⟩
    case round =>
      obtain ⟨i, b, hi, rfl, rfl, hbel, Hok⟩ := hrel
      by_cases hlt : i < n
      · have hii : (i : Int) < (n : Int) := by omega
        go_wp2
        go_loopw [3, 20] (fun bv jx wr => ∃ (j : Nat) (b : Bool), j ≤ i ∧ jx = .int .i64 (j : Int) ∧ bv = .bool b ∧ Below w.heap.size w wr ∧ Hid (Ok n l i j b)) (fun _ jx _ => i - (intOf jx).toNat)
        case atStart => exact ⟨0, _, by omega, rfl, rfl, hbel, Hok⟩
        case round =>
          clear hbel Hok
          obtain ⟨j, b, hj, rfl, rfl, hbel, Hok⟩ := hrel
          by_cases hjt : j < i
          · have hji : (j : Int) < (i : Int) := by omega
            have hjn : (j : Int) < (n : Int) := by omega
            have hjn' : j < n := by omega
            cases b with
            | false =>
              have hok2 : Ok n l i (j + 1) false := by
                have := Hok.out
                unfold Ok at this ⊢
                rw [Done.next]
                constructor
                · intro h; simp at h
                · intro h; exact this.2 ⟨h.1, h.2.1⟩
              have Hok2 := Lib.hid hok2
              clear hok2
              go_wp2
              refine wp_region_typed wr 12 (by kernel_rfl) (by kernel_rfl) (Below.refl _ _) ?_; simp only [List.take_succ_cons, List.take_zero, List.take_nil]
              iterate 12 (refine wpX_step (by rfl) (fun K hK => ?_); go_simp; first | (refine hK _ ?_; clear hK K) | (apply Exists.intro; refine ⟨fun _ => ?_, hK _ ?_⟩; fail; clear hK K))
              refine wpX_nil ?_
              intro u2 hb2
              have hbel2 := Below.then hbel hb2
              change wpList _ _ _ [_] _ _
              go_wp2
              go_roundw
              case rel => exact ⟨j + 1, _, by omega, by go_num, rfl, hbel2, Hok2⟩
              case measure => simp [intOf]; omega
            | true =>
              obtain ⟨q, off, rfl, hc1⟩ := u64_at (h.below hbel) j (by rw [Hn.out]; omega)
              obtain ⟨q', off', e', hc2⟩ := u64_at (h.below hbel) i (by rw [Hn.out]; omega)
              simp only [Option.some.injEq, Addr.mk.injEq, and_true] at e'
              obtain ⟨rfl, rfl⟩ := e'
              obtain ⟨x, hx⟩ : ∃ x, x = gv l j := ⟨_, rfl⟩
              obtain ⟨y, hy⟩ : ∃ y, y = gv l i := ⟨_, rfl⟩
              rw [← hx] at hc1
              rw [← hy] at hc2
              have f1 := fun u : Ext wr => u.cell hc1
              have f2 := fun u : Ext wr => u.cell hc2
              obtain ⟨r, hr⟩ : ∃ r, r = decide (x < y) := ⟨_, rfl⟩
              have hd : decide ((x : Int) < (y : Int)) = r := by
                rw [hr]
                by_cases h : x < y
                · rw [decide_eq_true h, decide_eq_true (by omega)]
                · rw [decide_eq_false h, decide_eq_false (by omega)]
              have hok2 : Ok n l i (j + 1) r := by
                have := Hok.out
                unfold Ok at this ⊢
                rw [Done.next, hr, decide_eq_true_eq, hx, hy]
                constructor
                · intro h; exact ⟨(this.1 rfl).1, (this.1 rfl).2, h⟩
                · intro h; exact h.2.2
              have Hok2 := Lib.hid hok2
              have hrn : decide (x < y) = r := hr.symm
              clear hok2 hx hy hc1 hc2 hr
              go_wp2
              refine wp_region_typed wr 12 (by kernel_rfl) (by kernel_rfl) (Below.refl _ _) ?_; simp only [List.take_succ_cons, List.take_zero, List.take_nil]
              iterate 12 (refine wpX_step (by rfl) (fun K hK => ?_); go_simp; first | (refine hK _ ?_; clear hK K) | (apply Exists.intro; refine ⟨fun _ => ?_, hK _ ?_⟩; fail; clear hK K))
              refine wpX_nil ?_
              intro u2 hb2
              have hbel2 := Below.then hbel hb2
              change wpList _ _ _ [_] _ _
              clear f1 f2 hd hrn
              go_wp2
              go_roundw
              case rel => exact ⟨j + 1, _, by omega, by go_num, rfl, hbel2, Hok2⟩
              case measure => simp [intOf]; omega
          · obtain rfl : j = i := by omega
            have hok2 : Ok n l (j + 1) 0 b := by
              have := Hok.out
              unfold Ok at this ⊢
              rw [Done.row]; exact this
            have Hok2 := Lib.hid hok2
            clear hok2
            go_wp2
            go_roundw
            case rel => exact ⟨j + 1, _, by omega, by go_num, rfl, hbel, Hok2⟩
            case measure => simp [intOf]; omega
      · obtain rfl : i = n := by omega
        have hRb : R = b := by
          have h1 := HR.out
          have h2 := Hok.out
          unfold Ok at h1 h2
          rw [Bool.eq_iff_iff, h1, h2]
        subst hRb
        go_wp2
        go_ret
        exact ⟨rfl, hbel⟩
end Go.Proofs.Ytgjgokcpampljaa
