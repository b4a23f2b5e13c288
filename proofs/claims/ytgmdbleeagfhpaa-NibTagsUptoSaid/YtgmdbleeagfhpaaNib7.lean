/- The reference's NTag; nib.Untag. -/
import Derived.Test.YtgmdbleeagfhpaaNib6
set_option linter.unusedSimpArgs false
set_option linter.unusedVariables false
namespace Go.Proofs.Ytgmdbleeagfhpaa
open Go.RowKit
set_option maxHeartbeats 400000 in
set_option maxRecDepth 100000 in
theorem ntag_any (a : Option Addr) (n c : Nat) (p : List UInt8) (leaf : Bool) (hn : p.length = n) (w : World) (h : Bytes w (.slice a n c) p) (hl : n + 2 ≤ 140737488355328) :
    Calls Try.prog 41 #[.slice a n c, .bool leaf] w fun e w' => ∃ v, e = .returned (.tuple #[v, .int .i64 (joinE (tagL p leaf))]) ∧ Bytes w' v (joinR (tagL p leaf)) ∧ Below w.heap.size w w' := by
  have Hn := Lib.hid hn
  rcases Nat.mod_two_eq_zero_or_one n with hm | hm
  · have ht : (n : Int) % 2 = 0 := by omega
    have hT := tagL_even (leaf := leaf) (show p.length % 2 = 0 by omega)
    obtain ⟨T, hTT⟩ : ∃ T, T = tagL p leaf := ⟨_, rfl⟩
    rw [← hTT] at hT ⊢
    have HT := Lib.hid hT
    clear hn hT hTT
    have own0 := fun (x : UInt8) (y : Int) (hy : (x.toNat : Int) = y) => (OwnOf.made b8 1 5 w w.heap.size [x, 0] #[.int .u8 y, .int .u8 0] 2 (by rw [← hy]; rfl) rfl rfl (Nat.le_refl _) (by decide))
    have o0 := own0 0 0 rfl
    have o2 := own0 2 2 rfl
    have b0 := fun y : Int => ((Below.refl w.heap.size w).alloc (Nat.le_refl _) (.cells #[.int .u8 y, .int .u8 0] 5))
    clear own0
    cases leaf
    all_goals
      go_enter Try.func41, Try.ntmps41
      go_wp2_with (first
        | (at_builtin; refine wpList_app (by rfl) (.tmp 26) (.tmp 27) 35 (by rfl) elU8 (by rfl) (by first | exact o0 | exact o2) (by rfl) (h.below (b0 _)) (b0 _) (by simp) (by have := Hn.out; simp; omega) (by have := Hn.out; simp [maxLen]; omega) ?_; intro v3 w3 hv3 hg3 _ hB3; obtain ⟨a3, c3, rfl, _⟩ := hv3.form' (2 + n) (by have := Hn.out; simp; omega))
        | (go_at_call 94; (with_reducible refine (njoin_l a3 (2 + n) c3 _ (by have := Hn.out; simp; omega) _ hv3.row (by omega)).mono ?_); rintro e w4 ⟨v4, rfl, h4, b4⟩; have hb4 := hg3.trans (b4.mono hB3)))
      go_ret2
      exact ⟨_, by rw [HT.out]; rfl, by rw [HT.out]; exact h4, hb4⟩
  · have ht : (n : Int) % 2 = 1 := by omega
    have hT := tagL_odd (leaf := leaf) (show p.length % 2 = 1 by omega)
    obtain ⟨T, hTT⟩ : ∃ T, T = tagL p leaf := ⟨_, rfl⟩
    rw [← hTT] at hT ⊢
    have HT := Lib.hid hT
    clear hn hT hTT
    have own0 := fun (x : UInt8) (y : Int) (hy : (x.toNat : Int) = y) => (OwnOf.made b8 1 5 w w.heap.size [x] #[.int .u8 y] 1 (by rw [← hy]; rfl) rfl rfl (Nat.le_refl _) (by decide))
    have o0 := own0 1 1 rfl
    have o2 := own0 3 3 rfl
    have b0 := fun y : Int => (Below.refl w.heap.size w).alloc (Nat.le_refl _) (.cells #[.int .u8 y] 5)
    clear own0
    cases leaf
    all_goals
      go_enter Try.func41, Try.ntmps41
      go_wp2_with (first
        | (at_builtin; refine wpList_app (by rfl) (.tmp 26) (.tmp 27) 35 (by rfl) elU8 (by rfl) (by first | exact o0 | exact o2) (by rfl) (h.below (b0 _)) (b0 _) (by simp) (by have := Hn.out; simp; omega) (by have := Hn.out; simp [maxLen]; omega) ?_; intro v3 w3 hv3 hg3 _ hB3; obtain ⟨a3, c3, rfl, _⟩ := hv3.form' (1 + n) (by have := Hn.out; simp; omega))
        | (go_at_call 94; (with_reducible refine (njoin_l a3 (1 + n) c3 _ (by have := Hn.out; simp; omega) _ hv3.row (by omega)).mono ?_); rintro e w4 ⟨v4, rfl, h4, b4⟩; have hb4 := hg3.trans (b4.mono hB3)))
      go_ret2
      exact ⟨_, by rw [HT.out]; rfl, by rw [HT.out]; exact h4, hb4⟩
theorem halves_l (a : Option Addr) (n c m : Nat) (l : List UInt8) (hn : l.length = n) (hm : m = 2 * n) (w : World) (h : Bytes w (.slice a n c) l) (hl : 2 * n ≤ 140737488355328) :
    Calls Try.prog 95 #[.slice a n c] w fun e w' => ∃ a' c', e = .returned (.slice a' m c') ∧ Bytes w' (.slice a' m c') (halvesL l) ∧ Below w.heap.size w w' := by
  subst hn; subst hm
  refine (halves_any a c l w h hl).mono ?_
  rintro e w' ⟨v, rfl, h2, h3⟩
  obtain ⟨a', c', rfl, _⟩ := h2.form' (2 * l.length) (halves_len l)
  exact ⟨a', c', rfl, h2.row, h3⟩
theorem nhalves_l (a : Option Addr) (n c m : Nat) (l : List UInt8) (hn : l.length = n) (hm : m = 2 * n) (w : World) (h : Bytes w (.slice a n c) l) (hl : 2 * n ≤ 140737488355328) :
    Calls Try.prog 96 #[.slice a n c] w fun e w' => ∃ a' c', e = .returned (.slice a' m c') ∧ Bytes w' (.slice a' m c') (halvesL l) ∧ Below w.heap.size w w' := by
  subst hn; subst hm
  refine (nhalves_any a c l w h hl).mono ?_
  rintro e w' ⟨v, rfl, h2, h3⟩
  obtain ⟨a', c', rfl, _⟩ := h2.form' (2 * l.length) (halves_len l)
  exact ⟨a', c', rfl, h2.row, h3⟩
theorem u8_four (x : UInt8) (h : ¬ 3 < x.toNat) : x = 0 ∨ x = 1 ∨ x = 2 ∨ x = 3 := by
  rcases (show x.toNat = 0 ∨ x.toNat = 1 ∨ x.toNat = 2 ∨ x.toNat = 3 from by omega) with h | h | h | h
  · exact .inl (UInt8.toNat_inj.1 h)
  · exact .inr (.inl (UInt8.toNat_inj.1 h))
  · exact .inr (.inr (.inl (UInt8.toNat_inj.1 h)))
  · exact .inr (.inr (.inr (UInt8.toNat_inj.1 h)))
theorem un_at (b : List UInt8) (x y : UInt8) (r : List UInt8) (h : halvesL b = x :: y :: r) (k : Nat) (leaf : Bool)
    (hk : k = if 3 < x.toNat then 0 else if x.toNat % 2 = 1 then 1 else if y.toNat = 0 then 2 else 0) (hf : leaf = (k != 0 && decide (2 ≤ x.toNat))) :
    unLeaf b = leaf ∧ unP b = (if k = 0 then [] else (halvesL b).drop k) ∧ unE b = (if k = 0 then 1 else 0) := by
  have h1 : unAt b = k := by rw [hk]; unfold unAt; rw [h]
  refine ⟨?_, by unfold unP; rw [h1], by unfold unE; rw [h1]⟩
  rw [hf]; unfold unLeaf; rw [h1, h]
set_option maxHeartbeats 800000 in
set_option maxRecDepth 100000 in
theorem untag_any (a : Option Addr) (n c : Nat) (b : List UInt8) (hn : b.length = n) (w : World) (h : Bytes w (.slice a n c) b) (hl : 2 * n ≤ 140737488355328) :
    Calls Try.prog 42 #[.slice a n c] w fun e w' => ∃ v, e = .returned (.tuple #[v, .bool (unLeaf b), .int .i64 (unE b)]) ∧ Bytes w' v (unP b) ∧ Below w.heap.size w w' := by
  obtain ⟨m, hm⟩ : ∃ m, m = 2 * n := ⟨_, rfl⟩
  have Hn := Lib.hid hn
  have Hm := Lib.hid hm
  by_cases hb : b = []
  · obtain ⟨_, e1, e2, e3⟩ := un_none b (.inl hb)
    rw [e1, e2, e3]
    have hm0 : m = 0 := by rw [hm, ← hn, hb]; rfl
    clear hn e1 e2 e3 hb hm
    subst hm0
    go_enter Try.func42, Try.ntmps42
    go_wp2_with (go_at_call 95; (with_reducible refine (halves_l a n c 0 b Hn.out Hm.out _ h hl).mono ?_); rintro e w1 ⟨a1, c1, rfl, h1, b1⟩)
    go_ret3
    exact ⟨_, rfl, RowOf.nil _ _ _, b1⟩
  · obtain ⟨x, y, r, hx, hr, hx15, hy15⟩ := halves_two b hb
    have hun := un_at b x y r hx
    have hlen : (halvesL b).length = m := by rw [halves_len, hm, hn]
    have hm2 : 2 ≤ m := by rw [← hlen, hx]; simp
    have hcell : ∀ (w1 : World) a1 c1, Bytes w1 (.slice a1 m c1) (halvesL b) → ∃ blk off, a1 = some ⟨blk, off, none⟩ ∧ w1.cell? ⟨blk, off, none⟩ = some (.int .u8 (x.toNat : Int)) ∧ w1.cell? ⟨blk, off + 1, none⟩ = some (.int .u8 (y.toNat : Int)) := by
      intro w1 a1 c1 h1
      obtain ⟨blk, off, ha, hc⟩ := h1.at 0 (by omega)
      obtain ⟨blk', off', ha', hc'⟩ := h1.at 1 (by omega)
      rw [ha] at ha'
      simp only [Option.some.injEq, Addr.mk.injEq, and_true] at ha'
      obtain ⟨rfl, rfl⟩ := ha'
      refine ⟨blk, off, ha, ?_, ?_⟩
      · rw [Nat.add_zero] at hc; rw [hc]; simp [hx]
      · rw [hc']; simp [hx]
    have Hcell := Lib.hid hcell
    have Hlen := Lib.hid hlen
    have hz0 : ((m : Int) == 0) = false := by rw [beq_eq_false_iff_ne]; omega
    have g0 : 0 < m := by omega
    have g1 : 1 < m := by omega
    have g1' : (1 : Int) < (m : Int) := by omega
    have g0' : (0 : Int) < (m : Int) := by omega
    clear hn hm hb hcell hlen hx hr
    by_cases h3 : 3 < x.toNat
    · obtain ⟨e1, e2, e3⟩ := hun 0 false (by rw [if_pos h3]) rfl
      rw [e1, e2, e3]
      have hd : (3 : Int) < (x.toNat : Int) := by omega
      clear hun e1 e2 e3
      go_enter Try.func42, Try.ntmps42
      go_wp2_with (go_at_call 95; (with_reducible refine (halves_l a n c m b Hn.out Hm.out _ h hl).mono ?_); rintro e w1 ⟨a1, c1, rfl, h1, b1⟩; obtain ⟨blk, off, rfl, hc0, hc1⟩ := Hcell.out _ _ _ h1)
      go_ret3
      exact ⟨_, rfl, RowOf.nil _ _ _, b1⟩
    · have q01 : bits .and .u8 0 1 = 0 := by decide
      have q11 : bits .and .u8 1 1 = 1 := by decide
      have q21 : bits .and .u8 2 1 = 0 := by decide
      have q31 : bits .and .u8 3 1 = 1 := by decide
      have q02 : bits .and .u8 0 2 = 0 := by decide
      have q12 : bits .and .u8 1 2 = 0 := by decide
      have q22 : bits .and .u8 2 2 = 2 := by decide
      have q32 : bits .and .u8 3 2 = 2 := by decide
      have hfrom1 := fun w1 a1 c1 (h1 : Bytes w1 (.slice a1 m c1) (halvesL b)) => RowOf.from elU8 h1 1 (by omega) 1 rfl
      have hfrom2 := fun w1 a1 c1 (h1 : Bytes w1 (.slice a1 m c1) (halvesL b)) => RowOf.from elU8 h1 2 hm2 2 rfl
      have HF1 := Lib.hid hfrom1
      have HF2 := Lib.hid hfrom2
      clear hfrom1 hfrom2
      rcases u8_four x h3 with rfl | rfl | rfl | rfl
      · by_cases hy0 : y.toNat = 0
        · obtain rfl : y = 0 := UInt8.toNat_inj.1 hy0
          clear hy0
          obtain ⟨e1, e2, e3⟩ := hun 2 false (by simp) (by simp)
          rw [e1, e2, e3]
          clear hun e1 e2 e3 h3
          go_enter Try.func42, Try.ntmps42
          go_wp2_with (go_at_call 95; (with_reducible refine (halves_l a n c m b Hn.out Hm.out _ h hl).mono ?_); rintro e w1 ⟨a1, c1, rfl, h1, b1⟩; obtain ⟨blk, off, rfl, hc0, hc1⟩ := Hcell.out _ _ _ h1; obtain ⟨a2, c2, hs2, h2⟩ := HF2.out _ _ _ h1; have hc0' : w1.cell? ⟨blk, off, none⟩ = some (.int .u8 0) := hc0; clear hc0; have hc1' : w1.cell? ⟨blk, off + 1, none⟩ = some (.int .u8 0) := hc1; clear hc1)
          have k0 := fun u : Ext w1 => u.cell hc0'
          refine wp_region_typed w1 10 (by kernel_rfl) (by kernel_rfl) (Below.refl _ _) ?_; simp only [List.take_succ_cons, List.take_zero, List.take_nil]
          iterate 10 (refine wpX_step (by rfl) (fun K hK => ?_); go_simp; first | (refine hK _ ?_; clear hK K) | (apply Exists.intro; refine ⟨fun _ => ?_, hK _ ?_⟩; fail; clear hK K))
          refine wpX_end rfl ?_
          rintro w2 hw2
          simp only [List.reverse_nil, forallRel]
          have hr2 := RowOf.kept h2 hw2
          have hb2 := Below.then b1 hw2
          clear k0
          go_wp2
          go_ret3
          exact ⟨_, rfl, by first | exact hr2 | simpa using hr2, hb2⟩
        · obtain ⟨e1, e2, e3⟩ := hun 0 false (by simp [hy0]) rfl
          rw [e1, e2, e3]
          have hd : ((y.toNat : Int) != 0) = true := by rw [bne_iff_ne]; omega
          clear hun e1 e2 e3 h3 hy0
          go_enter Try.func42, Try.ntmps42
          go_wp2_with (go_at_call 95; (with_reducible refine (halves_l a n c m b Hn.out Hm.out _ h hl).mono ?_); rintro e w1 ⟨a1, c1, rfl, h1, b1⟩; obtain ⟨blk, off, rfl, hc0, hc1⟩ := Hcell.out _ _ _ h1; have hc0' : w1.cell? ⟨blk, off, none⟩ = some (.int .u8 0) := hc0; clear hc0)
          go_ret3
          exact ⟨_, rfl, RowOf.nil _ _ _, b1⟩
      · obtain ⟨e1, e2, e3⟩ := hun 1 false (by simp) (by simp)
        rw [e1, e2, e3]
        clear hun e1 e2 e3 h3
        go_enter Try.func42, Try.ntmps42
        go_wp2_with (go_at_call 95; (with_reducible refine (halves_l a n c m b Hn.out Hm.out _ h hl).mono ?_); rintro e w1 ⟨a1, c1, rfl, h1, b1⟩; obtain ⟨blk, off, rfl, hc0, hc1⟩ := Hcell.out _ _ _ h1; obtain ⟨a2, c2, hs2, h2⟩ := HF1.out _ _ _ h1; have hc0' : w1.cell? ⟨blk, off, none⟩ = some (.int .u8 1) := hc0; clear hc0)
        have k0 := fun u : Ext w1 => u.cell hc0'
        refine wp_region_typed w1 10 (by kernel_rfl) (by kernel_rfl) (Below.refl _ _) ?_; simp only [List.take_succ_cons, List.take_zero, List.take_nil]
        iterate 10 (refine wpX_step (by rfl) (fun K hK => ?_); go_simp; first | (refine hK _ ?_; clear hK K) | (apply Exists.intro; refine ⟨fun _ => ?_, hK _ ?_⟩; fail; clear hK K))
        refine wpX_end rfl ?_
        rintro w2 hw2
        simp only [List.reverse_nil, forallRel]
        have hr2 := RowOf.kept h2 hw2
        have hb2 := Below.then b1 hw2
        clear k0
        go_wp2
        go_ret3
        exact ⟨_, rfl, by first | exact hr2 | simpa using hr2, hb2⟩
      · by_cases hy0 : y.toNat = 0
        · obtain rfl : y = 0 := UInt8.toNat_inj.1 hy0
          clear hy0
          obtain ⟨e1, e2, e3⟩ := hun 2 true (by simp) (by simp)
          rw [e1, e2, e3]
          clear hun e1 e2 e3 h3
          go_enter Try.func42, Try.ntmps42
          go_wp2_with (go_at_call 95; (with_reducible refine (halves_l a n c m b Hn.out Hm.out _ h hl).mono ?_); rintro e w1 ⟨a1, c1, rfl, h1, b1⟩; obtain ⟨blk, off, rfl, hc0, hc1⟩ := Hcell.out _ _ _ h1; obtain ⟨a2, c2, hs2, h2⟩ := HF2.out _ _ _ h1; have hc0' : w1.cell? ⟨blk, off, none⟩ = some (.int .u8 2) := hc0; clear hc0; have hc1' : w1.cell? ⟨blk, off + 1, none⟩ = some (.int .u8 0) := hc1; clear hc1)
          have k0 := fun u : Ext w1 => u.cell hc0'
          refine wp_region_typed w1 10 (by kernel_rfl) (by kernel_rfl) (Below.refl _ _) ?_; simp only [List.take_succ_cons, List.take_zero, List.take_nil]
          iterate 10 (refine wpX_step (by rfl) (fun K hK => ?_); go_simp; first | (refine hK _ ?_; clear hK K) | (apply Exists.intro; refine ⟨fun _ => ?_, hK _ ?_⟩; fail; clear hK K))
          refine wpX_end rfl ?_
          rintro w2 hw2
          simp only [List.reverse_nil, forallRel]
          have hr2 := RowOf.kept h2 hw2
          have hb2 := Below.then b1 hw2
          clear k0
          go_wp2
          go_ret3
          exact ⟨_, rfl, by first | exact hr2 | simpa using hr2, hb2⟩
        · obtain ⟨e1, e2, e3⟩ := hun 0 false (by simp [hy0]) rfl
          rw [e1, e2, e3]
          have hd : ((y.toNat : Int) != 0) = true := by rw [bne_iff_ne]; omega
          clear hun e1 e2 e3 h3 hy0
          go_enter Try.func42, Try.ntmps42
          go_wp2_with (go_at_call 95; (with_reducible refine (halves_l a n c m b Hn.out Hm.out _ h hl).mono ?_); rintro e w1 ⟨a1, c1, rfl, h1, b1⟩; obtain ⟨blk, off, rfl, hc0, hc1⟩ := Hcell.out _ _ _ h1; have hc0' : w1.cell? ⟨blk, off, none⟩ = some (.int .u8 2) := hc0; clear hc0)
          go_ret3
          exact ⟨_, rfl, RowOf.nil _ _ _, b1⟩
      · obtain ⟨e1, e2, e3⟩ := hun 1 true (by simp) (by simp)
        rw [e1, e2, e3]
        clear hun e1 e2 e3 h3
        go_enter Try.func42, Try.ntmps42
        go_wp2_with (go_at_call 95; (with_reducible refine (halves_l a n c m b Hn.out Hm.out _ h hl).mono ?_); rintro e w1 ⟨a1, c1, rfl, h1, b1⟩; obtain ⟨blk, off, rfl, hc0, hc1⟩ := Hcell.out _ _ _ h1; obtain ⟨a2, c2, hs2, h2⟩ := HF1.out _ _ _ h1; have hc0' : w1.cell? ⟨blk, off, none⟩ = some (.int .u8 3) := hc0; clear hc0)
        have k0 := fun u : Ext w1 => u.cell hc0'
        refine wp_region_typed w1 10 (by kernel_rfl) (by kernel_rfl) (Below.refl _ _) ?_; simp only [List.take_succ_cons, List.take_zero, List.take_nil]
        iterate 10 (refine wpX_step (by rfl) (fun K hK => ?_); go_simp; first | (refine hK _ ?_; clear hK K) | (apply Exists.intro; refine ⟨fun _ => ?_, hK _ ?_⟩; fail; clear hK K))
        refine wpX_end rfl ?_
        rintro w2 hw2
        simp only [List.reverse_nil, forallRel]
        have hr2 := RowOf.kept h2 hw2
        have hb2 := Below.then b1 hw2
        clear k0
        go_wp2
        go_ret3
        exact ⟨_, rfl, by first | exact hr2 | simpa using hr2, hb2⟩
end Go.Proofs.Ytgmdbleeagfhpaa
