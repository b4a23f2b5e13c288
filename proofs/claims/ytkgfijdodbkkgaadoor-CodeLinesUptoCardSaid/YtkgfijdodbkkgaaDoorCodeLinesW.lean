/- slices.Equal of strings; the walk of the law CodeLines. -/
import Derived.Test.YtkgfijdodbkkgaaDoorCln7
set_option linter.unusedSimpArgs false
set_option linter.unusedVariables false
namespace Go.Proofs.YtkgfijdodbkkgaaDoor
open Go.RowKit
set_option maxHeartbeats 1000000 in
set_option maxRecDepth 100000 in
theorem stequal_any (a b : Option Addr) (n c d : Nat) (l : List (List UInt8)) (hn : l.length = n) (w : World) (h1 : RowOf fcell 1 w (.slice a n c) l) (h2 : RowOf fcell 1 w (.slice b n d) l) :
    Calls Tryd.prog 6 #[.slice a n c, .slice b n d] w fun e w' => e = .returned (.bool true) ∧ Below w.heap.size w w' := by
  have Hn := Lib.hid hn
  have hsm := h1.small
  unfold maxLen at hsm
  rw [hn] at hsm
  clear hn
  go_enter Tryd.func6, Tryd.ntmps6
  go_wp2_with fail
  go_loopw [13] (fun ix wr => ∃ k : Nat, k ≤ n ∧ ix = .int .i64 (k : Int) ∧ Below w.heap.size w wr) (fun ix _ => n - (intOf ix).toNat)
  case atStart => exact ⟨0, by omega, rfl, Below.refl _ _⟩
  case round =>
    obtain ⟨k, hk, rfl, hbel⟩ := hrel
    by_cases hlt : k < n
    · have hki : (k : Int) < (n : Int) := by omega
      have hil : k < l.length := by rw [Hn.out]; exact hlt
      obtain ⟨b1, o1, rfl, hc1⟩ := RowOf.cells (f := fcell) (size := 1) (fun _ => rfl) (h1.below hbel) k hil
      obtain ⟨b2, o2, rfl, hc2⟩ := RowOf.cells (f := fcell) (size := 1) (fun _ => rfl) (h2.below hbel) k hil
      have z1 := hc1 0 _ rfl
      have z2 := hc2 0 _ rfl
      rw [Nat.mul_one, Nat.add_zero] at z1 z2
      obtain ⟨X, hX⟩ : ∃ X, X = l[k] := ⟨_, rfl⟩
      rw [← hX] at z1 z2
      have k1 := fun u : Ext wr => u.cell z1
      have k2 := fun u : Ext wr => u.cell z2
      have hxx : (X == X) = true := beq_self_eq_true X
      clear hc1 hc2 z1 z2 hX hil
      go_wp2_with fail
      refine wp_region_typed wr 9 (by kernel_rfl) (by kernel_rfl) (Below.refl _ _) ?_; simp only [List.take_succ_cons, List.take_zero, List.take_nil]
      iterate 9 (refine wpX_step (by rfl) (fun K hK => ?_); go_simp; first | (refine hK _ ?_; clear hK K) | (apply Exists.intro; refine ⟨fun _ => ?_, hK _ ?_⟩; fail; clear hK K))
      refine wpX_nil ?_
      intro u2 hb2
      have hbel2 := Below.then hbel hb2
      change forallRel u2 [] _ _
      simp only [forallRel, List.drop_succ_cons, List.drop_zero, List.drop_nil]
      clear k1 k2
      go_wp2_with fail
      go_roundw
      case rel => exact ⟨k + 1, by omega, by go_num, hbel2⟩
      case measure => simp [intOf]; omega
    · obtain rfl : k = n := by omega
      go_wp2_with fail
      go_ret
      exact ⟨rfl, hbel⟩
set_option maxHeartbeats 4000000 in
set_option maxRecDepth 100000 in
theorem codeLines_walk (a : Option Addr) (n c : Nat) (l : List UInt8) (hn : l.length = n) (hl : n ≤ 1048576) (b : Option Addr) (m d : Nat) (ls : List (List UInt8)) (hm : ls.length = m) (hs : (ls.map fun l => l.length + 1).sum ≤ 1048576) (w : World) (h : Bytes w (.slice a n c) l) (h2 : RowOf fcell 1 w (.slice b m d) ls) (hx : MaxHas w) (ht : Lib.TabIs Tryd.prog w "strings.asciiSpace" .u8 Lib.asciiSpaceTab) :
    Calls Tryd.prog 3 #[.slice a n c, .slice b m d] w fun e w' => e = .returned (.bool true) ∧ Below w.heap.size w w' := by
  have hlen : ∀ (ls : List (List UInt8)), ls.length ≤ (ls.map fun l => l.length + 1).sum := by
    intro ls
    induction ls with
    | nil => simp
    | cons x ls ih => simp only [List.map_cons, List.sum_cons, List.length_cons]; omega
  have hmem : ∀ (ls : List (List UInt8)), ∀ s ∈ ls, s.length ≤ (ls.map fun l => l.length + 1).sum := by
    intro ls
    induction ls with
    | nil => intro s hs; cases hs
    | cons x ls ih =>
      intro s hs
      simp only [List.map_cons, List.sum_cons]
      rcases List.mem_cons.1 hs with rfl | hs
      · omega
      · have := ih s hs; omega
  have hm1 : m ≤ 1048576 := by have := hlen ls; omega
  have hs1 : ∀ s ∈ ls, s.length ≤ 1048576 := fun s hh => Nat.le_trans (hmem ls s hh) hs
  have c1 := assemble_any b m d ls hm hm1 hs1 w h2 hx
  have c2 := fun u (hu : Below w.heap.size w u) => lassemble_any b m d ls hm hm1 hs u (h2.below hu) (hx.below hu) (tabC ht hu)
  have c3 := fun u (hu : Below w.heap.size w u) => disassemble_any a n c l hn hl u (h.below hu)
  have c4 := fun u (hu : Below w.heap.size w u) => ldisassemble_any a n c l hn hl u (h.below hu) (tabC ht hu)
  rw [asm_lasm] at c1
  obtain ⟨R, hR⟩ : ∃ R, R = lasmP ls := ⟨_, rfl⟩
  obtain ⟨K, hK⟩ : ∃ K, K = dis l := ⟨_, rfl⟩
  simp only [← hR] at c1 c2
  simp only [← hK] at c3 c4
  unfold AsPost at c1 c2
  obtain ⟨E, hE⟩ : ∃ E : Int, E = if R.isSome = true then 0 else 1 := ⟨_, rfl⟩
  obtain ⟨B, hB⟩ : ∃ B, B = R.getD [] := ⟨_, rfl⟩
  simp only [← hE, ← hB] at c1 c2
  obtain ⟨kn, hkn⟩ : ∃ m, m = K.length := ⟨_, rfl⟩
  have HKn := Lib.hid hkn.symm
  have hEE : (E == E) = true := beq_self_eq_true E
  have hBB : (B == B) = true := beq_self_eq_true B
  have C1 := Lib.hid c1
  have C2 := Lib.hid c2
  have C3 := Lib.hid c3
  have C4 := Lib.hid c4
  clear c1 c2 c3 c4 hR hK hE hB hkn hlen hmem h h2 hx ht hs hs1 hm hm1 hn hl
  go_enter Tryd.func3, Tryd.ntmps3
  go_wp2_with (first
    | (go_at_call 4; (with_reducible refine C1.out.mono ?_); rintro e w1 ⟨xa, xn, xc, rfl, x1, b1⟩)
    | (go_at_call 5; (with_reducible refine (C2.out _ b1).mono ?_); rintro e w2 ⟨ya, yn, yc, rfl, y2, b2⟩; have bb2 := Below.then b1 b2)
    | (go_at_call 7; (with_reducible refine (C3.out _ bb2).mono ?_); rintro e w3 ⟨v3, rfl, o3, b3⟩; have bb3 := Below.then bb2 b3; obtain ⟨pa, pc, rfl, _⟩ := o3.form' kn HKn.out)
    | (go_at_call 8; (with_reducible refine (C4.out _ bb3).mono ?_); rintro e w4 ⟨v4, rfl, o4, b4⟩; have bb4 := Below.then bb3 b4; obtain ⟨qa, qc, rfl, _⟩ := o4.form' kn HKn.out; have se := Lib.hid (stequal_any pa qa kn pc qc K HKn.out w4 ((o3.kept b4).row) o4.row))
    | (go_at_call 6; (with_reducible refine se.out.mono ?_); rintro e w5 ⟨rfl, b5⟩; have bb5 := Below.then bb4 b5; have s1 := run_str (P := Tryd.prog) (src := 22) (dst := 9) elU8.ht (by kernel_rfl) (by kernel_rfl) (RowOf.kept (f := b8) (size := 1) x1 (Below.then b2 (Below.then b3 (Below.then b4 b5)))); have s2 := run_str (P := Tryd.prog) (src := 22) (dst := 9) elU8.ht (by kernel_rfl) (by kernel_rfl) (RowOf.kept (f := b8) (size := 1) y2 (Below.then b3 (Below.then b4 b5)))))
  go_ret
  exact ⟨rfl, bb5⟩
end Go.Proofs.YtkgfijdodbkkgaaDoor
