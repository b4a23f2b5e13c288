/- The reference's ofBits. -/
import Derived.Test.YtgmdbleeagfhpaaBits1
set_option linter.unusedSimpArgs false
set_option linter.unusedVariables false
namespace Go.Proofs.Ytgmdbleeagfhpaa
open Go.RowKit
abbrev Bools (w : World) (v : Value) (l : List Bool) : Prop := RowOf bbool 1 w v l
theorem Bools.later {w w' : World} {a : Option Addr} {n c : Nat} {l : List Bool} (h : Bools w (.slice a n c) l) (hb : Below w.heap.size w w') (k : Nat) (hk : k < l.length) :
    ∃ b off, a = some ⟨b, off, none⟩ ∧ w'.cell? ⟨b, off + k, none⟩ = some (.bool l[k]) := by
  obtain ⟨b, off, ha, hc⟩ := RowOf.cells (f := bbool) (size := 1) (fun _ => rfl) h k hk
  have hc0 : w.cell? ⟨b, off + k, none⟩ = some (.bool l[k]) := by simpa using hc 0 _ rfl
  have hlt := World.block_lt_of_cell? w _ hc0
  exact ⟨b, off, ha, by rw [hb.cell hlt]; exact hc0⟩
/-- what ofBits makes of the bits -/
def ofT (l : List Bool) : Nat := ofL (l.take 256)
theorem ofT_lt (l : List Bool) : ofT l < W256 := by
  have h := ofL_lt (l.take 256)
  refine Nat.lt_of_lt_of_le h ?_
  rw [show W256 = 2 ^ 256 from rfl]
  exact Nat.pow_le_pow_right (by omega) (by rw [List.length_take]; omega)
theorem ofT_step (l : List Bool) (i : Nat) (h : i < l.length) : ofT (l.take (i + 1)) = if l[i] = true ∧ i < 256 then ofT (l.take i) + 2 ^ i else ofT (l.take i) := by
  unfold ofT
  rw [List.take_take, List.take_take]
  by_cases hi : i < 256
  · rw [Nat.min_eq_right (by omega), Nat.min_eq_right (by omega), List.take_add_one, List.getElem?_eq_getElem h]
    simp only [Option.toList_some]
    rw [ofL_snoc, List.length_take, Nat.min_eq_left (by omega)]
    cases l[i] <;> simp [hi]
  · rw [if_neg (by omega), Nat.min_eq_left (by omega), Nat.min_eq_left (by omega)]
theorem ofT_low (l : List Bool) (i : Nat) (hi : i < 256) : ofT (l.take i) < 2 ^ i := by
  unfold ofT
  rw [List.take_take, Nat.min_eq_right (by omega)]
  exact Nat.lt_of_lt_of_le (ofL_lt _) (Nat.pow_le_pow_right (by omega) (by rw [List.length_take]; omega))
structure FrB (w : World) (Q : Nat) (u : World) : Prop where
  z : Blk 24 u w.heap.size z4
  a : Blk 24 u (w.heap.size + 1) (wcs Q)
  bel : Below w.heap.size w u
theorem FrB.kept {w u u' : World} {Q : Nat} (h : FrB w Q u) (hb : Below u.heap.size u u') : FrB w Q u' := ⟨h.z.kept hb, h.a.kept hb, h.bel.trans (hb.mono h.bel.size)⟩
theorem FrB.set {w u : World} {Q Q' : Nat} (h : FrB w Q u) (k : Nat) (x : Value) (hq : (wcs Q).set k x = wcs Q') : FrB w Q' (u.setCell ⟨w.heap.size + 1, k, none⟩ x) :=
  ⟨h.z.other _ (by simp) _, hq ▸ h.a.set k x, h.bel.setCell (by simp) _⟩
set_option maxHeartbeats 400000 in
set_option maxRecDepth 100000 in
theorem ofBits_any (a : Option Addr) (c : Nat) (l : List Bool) (w : World) (h : Bools w (.slice a l.length c) l) :
    Calls Try.prog 77 #[.slice a l.length c] w fun e w' => e = .returned (wv (ofT l)) ∧ Below w.heap.size w w' := by
  have hlm := h.small
  unfold maxLen at hlm
  obtain ⟨n, hn⟩ : ∃ n, n = l.length := ⟨_, rfl⟩
  rw [← hn] at h hlm ⊢
  obtain ⟨w1, hw1⟩ : ∃ w1, w1 = (w.alloc (.cells z4.toArray 24)).alloc (.cells z4.toArray 24) := ⟨_, rfl⟩
  have hF0 : FrB w 0 w1 := by
    rw [hw1]
    refine ⟨(Blk.new w 24 z4).alloc _, ?_, ((Below.refl _ _).alloc (Nat.le_refl _) _).alloc (by simp) _⟩
    have := Blk.new (w.alloc (.cells z4.toArray 24)) 24 z4
    rw [z4_zero]; simpa using this
  have Hn := Lib.hid hn
  have Hw1 := Lib.hid hw1
  clear hn hw1
  go_enter Try.func77, Try.ntmps77
  go_wp2
  rw [show (w.alloc (.cells #[.int .u64 0, .int .u64 0, .int .u64 0, .int .u64 0] 24)).alloc (.cells #[.int .u64 0, .int .u64 0, .int .u64 0, .int .u64 0] 24) = w1 from by rw [Hw1.out]; rfl]
  clear Hw1
  go_loopw [8] (fun ix wr => ∃ i : Nat, i ≤ n ∧ ix = .int .i64 (i : Int) ∧ FrB w (ofT (l.take i)) wr) (fun i _ => n - (intOf i).toNat)
  case atStart => exact ⟨0, by omega, rfl, hF0⟩
  case round =>
    clear hF0
    obtain ⟨i, hi, rfl, hF⟩ := hrel
    by_cases hlt : i < n
    · have hii : (i : Int) < (n : Int) := by omega
      obtain ⟨b, off, rfl, hc⟩ := Bools.later h hF.bel i (by rw [← Hn.out]; exact hlt)
      have hst := ofT_step l i (by rw [← Hn.out]; exact hlt)
      have hlow := fun hi => ofT_low l i hi
      obtain ⟨x, hx⟩ : ∃ x, x = l[i]'(by rw [← Hn.out]; exact hlt) := ⟨_, rfl⟩
      obtain ⟨Q, hQ⟩ : ∃ Q, Q = ofT (l.take i) := ⟨_, rfl⟩
      rw [← hx] at hc hst
      rw [← hQ] at hF hst hlow
      have Hst := Lib.hid hst
      have Hlow := Lib.hid hlow
      clear hst hlow hx hQ
      cases x with
      | false =>
        go_wp2
        go_roundw
        case rel => exact ⟨i + 1, by omega, by go_num, by rw [Hst.out, if_neg (by simp)]; exact hF⟩
        case measure => simp [intOf]; omega
      | true =>
        by_cases h256 : i < 256
        · have hd : decide ((i : Int) < 256) = true := by rw [decide_eq_true_eq]; omega
          obtain ⟨q, hq⟩ : ∃ q, q = i / 64 := ⟨_, rfl⟩
          obtain ⟨r, hr⟩ : ∃ r, r = i % 64 := ⟨_, rfl⟩
          have hq4 : q < 4 := by omega
          have e1 : (i : Int) / 64 = (q : Int) := by omega
          have e2 : (i : Int) % 64 = (r : Int) := by omega
          have e2t : (i : Int).tmod 64 = (r : Int) := by rw [Int.tmod_eq_emod_of_nonneg (by omega)]; exact e2
          have ew : IntKind.i64.wrap (q : Int) = (q : Int) := IntWalk.i64_in _ (by omega)
          have hqi : (q : Int) < 4 := by omega
          have hr64 : (r : Int) < 64 := by omega
          have hiq : i = 64 * q + r := by omega
          obtain ⟨s1, _, _⟩ := lim_addbit Q i q r hiq (by omega) (Hlow.out h256)
          have hput := wcs_addbit Q i q r hiq (by omega) hq4 (Hlow.out h256)
          obtain ⟨X, hX⟩ : ∃ X, X = lim Q q + 2 ^ r := ⟨_, rfl⟩
          have e8 : IntKind.u64.wrap ((lim Q q : Int) + IntKind.u64.wrap ((2 : Int) ^ r)) = (X : Int) := by
            rw [wrap_two r (by omega)]
            rw [← hX] at s1
            have : (lim Q q : Int) + ((2 ^ r : Nat) : Int) = (X : Int) := by rw [hX]; omega
            rw [this, IntKind.wrap_u64]; omega
          rw [← hX] at hput
          have hca := hF.a.wat q hq4
          have k0 := fun u : Ext wr => u.cell hca
          have Hput := Lib.hid hput
          clear hput hX s1 hq hr hiq hca
          go_wp2
          refine wp_region_typed wr 9 (by kernel_rfl) (by kernel_rfl) (Below.refl _ _) ?_; simp only [List.take_succ_cons, List.take_zero, List.take_nil]
          iterate 9 (refine wpX_step (by rfl) (fun K hK => ?_); go_simp; first | (refine hK _ ?_; clear hK K) | (apply Exists.intro; refine ⟨fun _ => ?_, hK _ ?_⟩; fail; clear hK K))
          refine wpX_nil ?_
          intro w5 hw5
          change wpList _ _ _ [_] _ _
          have hF5 := hF.kept hw5
          obtain ⟨y3, hy3⟩ := hF5.a.has q hq4
          have hf3 := hF5.a.free q
          have hnew := hF5.set q _ Hput.out
          clear hF hF5 k0
          go_wp2
          go_roundw
          case rel => exact ⟨i + 1, by omega, by go_num, by rw [Hst.out, if_pos (by first | exact ⟨trivial, h256⟩ | exact ⟨rfl, h256⟩)]; exact hnew⟩
          case measure => simp [intOf]; omega
        · have hd : decide ((i : Int) < 256) = false := by rw [decide_eq_false_iff_not]; omega
          go_wp2
          go_roundw
          case rel => exact ⟨i + 1, by omega, by go_num, by rw [Hst.out, if_neg (by omega)]; exact hF⟩
          case measure => simp [intOf]; omega
    · obtain rfl : i = n := by omega
      have hfin : l.take i = l := List.take_of_length_le (by have := Hn.out; omega)
      rw [hfin] at hF
      clear hfin
      go_wp2_with (first
        | (refine wpList_loadA (o := ⟨some 28, _, _, _, _, _⟩) (by rfl) 24 (.tmp 3) (by rfl) (w.heap.size + 1) (by rfl) aggWord hF.a (wcs_len _) ?_)
        | (refine wpList_storeA (by rfl) 24 (.tmp 2) (.tmp 28) (by rfl) (w.heap.size) (wcs (ofT l)) (by rfl) (by rfl) aggWord hF.z (wcs_len _) (by first | exact wcs_len _ | rfl) (wcs_one _) (Below.refl _ _) (Nat.le_refl _) ?_; intro w7 hb7 b7 g7; have hbel7 := hF.bel.trans (b7.mono (by omega))))
      exact bodyPost_ret (results_blk rfl _ _ w.heap.size aggWord hb7 (wcs_len _) rfl) rfl ⟨rfl, hbel7⟩
end Go.Proofs.Ytgmdbleeagfhpaa
