/- tx.number, tx.flag. -/
import Derived.Test.YtnhbfnegpjkojaaTx1
set_option linter.unusedSimpArgs false
set_option linter.unusedVariables false
namespace Go.Proofs.Ytnhbfnegpjkojaa
open Go.RowKit
/-- a text that the call made -/
def TxtP (T : List UInt8) (w : World) (e : Ending) (w' : World) : Prop := ∃ a m c, e = .returned (.agg #[.bool false, .slice a m c, .slice none 0 0]) ∧ TxB w.heap.size T (.slice a m c) w' ∧ Below w.heap.size w w'
set_option maxHeartbeats 1000000 in
set_option maxRecDepth 100000 in
theorem number_any (n : Nat) (hn : n < 18446744073709551616) (w : World) : Calls Try.prog 92 #[.int .u64 (n : Int)] w (TxtP (numB n) w) := by
  have hz := Blk.new w 156 [.bool false, .slice none 0 0, .slice none 0 0]
  have hbel : Below w.heap.size w (w.alloc (.cells #[.bool false, .slice none 0 0, .slice none 0 0] 156)) := (Below.refl _ _).alloc (Nat.le_refl _) _
  have hsz : (w.alloc (.cells #[.bool false, .slice none 0 0, .slice none 0 0] 156)).heap.size = w.heap.size + 1 := World.size_alloc _ _
  have ci : ∀ u : World, Calls Try.prog 124 #[.int .u64 (n : Int)] u _ := fun u => int_any n hn u
  change ∀ u : World, Calls Try.prog 124 #[.int .u64 (n : Int)] u (fun e w' => e = .returned (.agg (wcs n).toArray) ∧ Below u.heap.size u w') at ci
  have cn : ∀ u : World, Calls Try.prog 93 #[.agg (wcs n).toArray] u _ := fun u => num_any n u
  obtain ⟨T, hT⟩ : ∃ T, T = numB n := ⟨_, rfl⟩
  rw [← hT] at cn ⊢
  have Ci := Lib.hid ci
  have Cn := Lib.hid cn
  have Hsz := Lib.hid hsz
  clear ci cn hT hsz
  go_enter Try.func92, Try.ntmps92
  go_wp2_with (first
    | (go_at_call 124; (with_reducible refine (Ci.out _).mono ?_); rintro e w1 ⟨rfl, b1⟩; have hz1 := hz.kept b1; have bb1 := Below.then hbel b1)
    | (go_at_call 93; (with_reducible refine (Cn.out _).mono ?_); rintro e w2 ⟨v2, rfl, o2, b2⟩; obtain ⟨a2, c2, rfl, _⟩ := o2.form; have hz2 := hz1.kept b2; have bb2 := Below.then bb1 b2; have t2 : TxB w.heap.size T (.slice a2 T.length c2) w2 := TxB.lower (TxB.own o2) bb1.size; have f2 : ∀ k, (Value.slice a2 T.length c2).ownBlock = some k → k ≠ w.heap.size := fun k hk => by have h1 := OwnOf.lt o2 k hk; have h2 := hz1.lt; omega)
    | (go_at_call 90; refine (text_any _ _ _ _).mono ?_; rintro e w3 ⟨rfl, b3⟩; have hz3 := hz2.kept b3; have bb3 := Below.then bb2 b3; have t3 := TxB.mono _ _ _ _ _ t2 b3; have h3 : w.heap.size < w2.heap.size := Nat.lt_of_lt_of_le hz1.lt b2.size)
    | ((with_reducible show wpList _ _ _ (⟨none, Op.store _ _ (Operand.tmp 6), _, _, _, _⟩ :: _) _ _); refine wpList_storeA (o := ⟨none, _, _, _, _, _⟩) (by rfl) 156 (.tmp 2) (.tmp 6) (by rfl) w.heap.size [.bool false, .slice a2 T.length c2, .slice none 0 0] (by rfl) (by rfl) aggItem hz3 (by rfl) (by rfl) (by intro u hu; simp at hu; rcases hu with rfl | rfl | rfl <;> rfl) bb3 (Nat.le_refl _) ?_; intro w4 z4 bb4 g4))
  exact bodyPost_ret (results_blk rfl _ _ w.heap.size aggItem z4 rfl rfl) rfl ⟨a2, _, c2, rfl, ⟨RowOf.offT t3.1 g4 f2, t3.2⟩, bb4⟩
set_option maxHeartbeats 1000000 in
set_option maxRecDepth 100000 in
theorem flag_any (b : Bool) (w : World) : Calls Try.prog 91 #[.bool b] w (TxtP (numB (mkN b)) w) := by
  have hz := Blk.new w 156 [.bool false, .slice none 0 0, .slice none 0 0]
  have hbel : Below w.heap.size w (w.alloc (.cells #[.bool false, .slice none 0 0, .slice none 0 0] 156)) := (Below.refl _ _).alloc (Nat.le_refl _) _
  have c1 : ∀ u : World, Calls Try.prog 92 #[.int .u64 1] u (TxtP (numB 1) u) := fun u => number_any 1 (by decide) u
  have c0 : ∀ u : World, Calls Try.prog 92 #[.int .u64 0] u (TxtP (numB 0) u) := fun u => number_any 0 (by decide) u
  cases b with
  | true =>
    show Calls Try.prog 91 #[.bool true] w (TxtP (numB 1) w)
    obtain ⟨T, hT⟩ : ∃ T, T = numB 1 := ⟨_, rfl⟩
    rw [← hT] at c1 ⊢
    have C1 := Lib.hid c1
    clear c1 c0 hT
    go_enter Try.func91, Try.ntmps91
    go_wp2_with (first
      | (go_at_call 92; refine (C1.out _).mono ?_; rintro e w1 ⟨a2, m2, c2, rfl, t1, b1⟩; have hz1 := hz.kept b1; have bb1 := Below.then hbel b1; have f1 : ∀ k, (Value.slice a2 m2 c2).ownBlock = some k → w.heap.size < k := fun k hk => by have h1 := t1.2 k hk; simp at h1; omega)
      | ((with_reducible show wpList _ _ _ (⟨none, Op.store _ _ _, _, _, _, _⟩ :: _) _ _); refine wpList_storeA (o := ⟨none, _, _, _, _, _⟩) (by rfl) 156 (.tmp 2) (.tmp 4) (by rfl) w.heap.size [.bool false, .slice a2 m2 c2, .slice none 0 0] (by rfl) (by rfl) aggItem hz1 (by rfl) (by rfl) (by intro u hu; simp at hu; rcases hu with rfl | rfl | rfl <;> rfl) bb1 (Nat.le_refl _) ?_; intro w4 z4 bb4 g4))
    exact bodyPost_ret (results_blk rfl _ _ w.heap.size aggItem z4 rfl rfl) rfl ⟨a2, _, c2, rfl, ⟨RowOf.offT t1.1 g4 (fun k hk => by have := f1 k hk; omega), fun k hk => Nat.le_of_lt (f1 k hk)⟩, bb4⟩
  | false =>
    show Calls Try.prog 91 #[.bool false] w (TxtP (numB 0) w)
    obtain ⟨T, hT⟩ : ∃ T, T = numB 0 := ⟨_, rfl⟩
    rw [← hT] at c0 ⊢
    have C1 := Lib.hid c0
    clear c1 c0 hT
    go_enter Try.func91, Try.ntmps91
    go_wp2_with (first
      | (go_at_call 92; refine (C1.out _).mono ?_; rintro e w1 ⟨a2, m2, c2, rfl, t1, b1⟩; have hz1 := hz.kept b1; have bb1 := Below.then hbel b1; have f1 : ∀ k, (Value.slice a2 m2 c2).ownBlock = some k → w.heap.size < k := fun k hk => by have h1 := t1.2 k hk; simp at h1; omega)
      | ((with_reducible show wpList _ _ _ (⟨none, Op.store _ _ _, _, _, _, _⟩ :: _) _ _); refine wpList_storeA (o := ⟨none, _, _, _, _, _⟩) (by rfl) 156 (.tmp 2) (.tmp 5) (by rfl) w.heap.size [.bool false, .slice a2 m2 c2, .slice none 0 0] (by rfl) (by rfl) aggItem hz1 (by rfl) (by rfl) (by intro u hu; simp at hu; rcases hu with rfl | rfl | rfl <;> rfl) bb1 (Nat.le_refl _) ?_; intro w4 z4 bb4 g4))
    exact bodyPost_ret (results_blk rfl _ _ w.heap.size aggItem z4 rfl rfl) rfl ⟨a2, _, c2, rfl, ⟨RowOf.offT t1.1 g4 (fun k hk => by have := f1 k hk; omega), fun k hk => Nat.le_of_lt (f1 k hk)⟩, bb4⟩
end Go.Proofs.Ytnhbfnegpjkojaa
