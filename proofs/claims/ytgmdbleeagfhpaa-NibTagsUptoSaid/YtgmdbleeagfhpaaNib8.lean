/- The reference's NUntag. -/
import Derived.Test.YtgmdbleeagfhpaaNib7
set_option linter.unusedSimpArgs false
set_option linter.unusedVariables false
namespace Go.Proofs.Ytgmdbleeagfhpaa
open Go.RowKit
theorem ntag_part (a : Option Addr) (n c : Nat) (b : List UInt8) (k : Nat) (leaf : Bool) (hn : ((halvesL b).drop k).length = n) (w : World) (h : Bytes w (.slice a n c) ((halvesL b).drop k)) (hl : n + 2 ≤ 140737488355328) :
    Calls Try.prog 41 #[.slice a n c, .bool leaf] w fun e w' => ∃ v, e = .returned (.tuple #[v, .int .i64 0]) ∧ Bytes w' v (joinR (tagL ((halvesL b).drop k) leaf)) ∧ Below w.heap.size w w' := by
  have := ntag_any a n c ((halvesL b).drop k) leaf hn w h hl
  rw [(join_yes (tag_part_ok b k leaf)).1] at this
  exact this
theorem str_conv {w : World} {v : Value} {l : List UInt8} (h : Bytes w v l) : (convert 35 9 v).run Try.prog w = .ok (str l) w := run_str elU8.ht (by kernel_rfl) (by kernel_rfl) h
set_option maxHeartbeats 800000 in
set_option maxRecDepth 100000 in
theorem nuntag_any (a : Option Addr) (n c : Nat) (b : List UInt8) (hn : b.length = n) (w : World) (h : Bytes w (.slice a n c) b) (hl : 2 * n ≤ 140737488355000) :
    Calls Try.prog 43 #[.slice a n c] w fun e w' => ∃ v, e = .returned (.tuple #[v, .bool (unLeaf b), .int .i64 (unE b)]) ∧ Bytes w' v (unP b) ∧ Below w.heap.size w w' := by
  obtain ⟨m, hm⟩ : ∃ m, m = 2 * n := ⟨_, rfl⟩
  have hmul : (2 : Int) * (n : Int) = (m : Int) := by omega
  have Hn := Lib.hid hn
  have Hm := Lib.hid hm
  have hlen : (halvesL b).length = m := by rw [halves_len, hm, hn]
  have Hlen := Lib.hid hlen
  have hm2 : m % 2 = 0 := by omega
  have hmb : m ≤ 140737488355000 := by omega
  have hb0 : m = 0 → b = [] := by intro h0; exact List.eq_nil_of_length_eq_zero (by omega)
  have hb1 : m ≠ 0 → b ≠ [] := by rintro h0 rfl; simp at hn; omega
  have Hb0 := Lib.hid hb0
  have Hb1 := Lib.hid hb1
  clear hn hm hlen hb0 hb1
  go_enter Try.func43, Try.ntmps43
  go_wp2
  go_loopw [5] (fun f wr => ∃ k : Nat, 1 ≤ k ∧ k ≤ 3 ∧ f = .int .i64 (k : Int) ∧ (∀ j leaf, 1 ≤ j → j < k → hits b j leaf = false) ∧ Below w.heap.size w wr) (fun f _ => 3 - (intOf f).toNat)
  case atStart => exact ⟨1, by omega, by omega, rfl, fun j leaf h1 h2 => by omega, Below.refl _ _⟩
  case round =>
    obtain ⟨k, hk1, hk3, rfl, hall, hbel⟩ := hrel
    have Hall := Lib.hid hall
    clear hall
    by_cases hk : k ≤ 2
    · by_cases hm0 : m = 0
      · obtain ⟨_, e1, e2, e3⟩ := un_none b (.inl (Hb0.out hm0))
        have HE := Lib.hid (And.intro e1 (And.intro e2 e3))
        have hd1 : decide ((k : Int) ≤ 2) = true := by rw [decide_eq_true_eq]; omega
        have hd2 : decide ((k : Int) ≤ (m : Int)) = false := by rw [decide_eq_false_iff_not]; omega
        have hd3 : decide (k ≤ m) = false := by rw [decide_eq_false_iff_not]; omega
        clear hm0 e1 e2 e3
        go_wp2
        go_ret3
        exact ⟨_, by rw [HE.out.1, HE.out.2.2]; rfl, by rw [HE.out.2.1]; exact RowOf.nil _ _ _, hbel⟩
      · have hd1 : decide ((k : Int) ≤ 2) = true := by rw [decide_eq_true_eq]; omega
        have hd2 : decide ((k : Int) ≤ (m : Int)) = true := by rw [decide_eq_true_eq]; omega
        have hd3 : decide (k ≤ m) = true := by rw [decide_eq_true_eq]; omega
        have hkm : k ≤ m := by omega
        have Hne := Lib.hid (Hb1.out hm0)
        clear hm0
        have hblk0 := Blk.new wr 4 [.bool false, .bool true]
        have hbel0 := hbel.alloc hbel.size (.cells #[.bool false, .bool true] 4)
        obtain ⟨g, hg⟩ : ∃ g, g = wr.heap.size := ⟨_, rfl⟩
        rw [← hg] at hblk0
        have hgw : w.heap.size ≤ g := by rw [hg]; exact hbel.size
        have Hg := Lib.hid hg
        clear hg
        go_wp2
        rw [show wr.heap.size = g from Hg.out.symm]
        clear Hg
        obtain ⟨wo, rfl⟩ : ∃ wo : World, wo = wr := ⟨_, rfl⟩
        go_loopw [24] (fun ix wi => ∃ j : Nat, j ≤ 2 ∧ ix = .int .i64 (j : Int) ∧ (1 ≤ j → hits b k false = false) ∧ (2 ≤ j → hits b k true = false) ∧ Blk 4 wi g [.bool false, .bool true] ∧ Below w.heap.size w wi) (fun ix _ => 2 - (intOf ix).toNat)
        case atStart => exact ⟨0, by omega, rfl, fun h => by omega, fun h => by omega, hblk0, hbel0⟩
        case round =>
          clear hblk0 hbel0
          obtain ⟨j, hj, rfl, hf, ht, hblk, hbel⟩ := hrel
          have Hf := Lib.hid hf
          have Ht := Lib.hid ht
          clear hf ht
          have key : ∀ leaf : Bool, ∀ w1 a1 c1, Bytes w1 (.slice a1 m c1) (halvesL b) → ∃ a2 c2, (∀ k' w', (Instr.slice 35 (.slice a1 m c1) (some (.int k' (k : Int))) none none).run Try.prog w' = .ok (.slice a2 (m - k) c2) w') ∧ Bytes w1 (.slice a2 (m - k) c2) ((halvesL b).drop k) :=
            fun leaf w1 a1 c1 h1 => RowOf.from elU8 h1 k hkm (k : Int) rfl
          have Key := Lib.hid key
          clear key
          have hdl : ((halvesL b).drop k).length = m - k := by rw [List.length_drop, Hlen.out]
          have Hdl := Lib.hid hdl
          clear hdl
          obtain ⟨q, hq⟩ : ∃ q, q = m - k := ⟨_, rfl⟩
          rw [← hq] at Key Hdl
          have hqb : q + 2 ≤ 140737488355328 := by omega
          clear hq
          by_cases hj2 : j < 2
          · rcases (show j = 0 ∨ j = 1 from by omega) with rfl | rfl
            · have hc := hblk.cell 0
              cases hh : hits b k false with
              | true =>
                obtain ⟨_, e1, e2, e3⟩ := un_found b k false (by omega) Hne.out hh
                have HE := Lib.hid (And.intro e1 (And.intro e2 e3))
                unfold hits at hh
                have HH := Lib.hid hh
                clear hh e1 e2 e3
                go_wp2_with (first
                  | (go_at_call 96; (with_reducible refine (nhalves_l a n c m b Hn.out Hm.out _ (h.below hbel) (by omega)).mono ?_); rintro e w1 ⟨a1, c1, rfl, h1, b1⟩; obtain ⟨a2, c2, hs2, h2⟩ := Key.out false _ _ _ h1)
                  | (go_at_call 41; (with_reducible refine (ntag_part a2 q c2 b k false Hdl.out _ h2 hqb).mono ?_); rintro e w2 ⟨v2, rfl, h3, b2⟩; have hbel2 := Below.then (Below.then hbel b1) b2; have hs4 := str_conv h3; have hs5 := str_conv (h.below hbel2); have hs6 := HH.out))
                go_ret3
                have h2' := RowOf.kept h2 b2
                exact ⟨_, by rw [HE.out.1, HE.out.2.2]; rfl, by rw [HE.out.2.1]; exact h2', hbel2⟩
              | false =>
                have HN := Lib.hid hh
                unfold hits at hh
                have HH := Lib.hid hh
                clear hh
                go_wp2_with (first
                  | (go_at_call 96; (with_reducible refine (nhalves_l a n c m b Hn.out Hm.out _ (h.below hbel) (by omega)).mono ?_); rintro e w1 ⟨a1, c1, rfl, h1, b1⟩; obtain ⟨a2, c2, hs2, h2⟩ := Key.out false _ _ _ h1)
                  | (go_at_call 41; (with_reducible refine (ntag_part a2 q c2 b k false Hdl.out _ h2 hqb).mono ?_); rintro e w2 ⟨v2, rfl, h3, b2⟩; have hbel2 := Below.then (Below.then hbel b1) b2; have hs4 := str_conv h3; have hs5 := str_conv (h.below hbel2); have hs6 := HH.out))
                have hblk2 := (hblk.kept b1).kept b2
                go_roundw
                case rel => exact ⟨1, by omega, by first | rfl | go_num, by first | exact fun _ => HN.out | trivial | (intros; first | trivial | exact HN.out), fun h => by omega, hblk2, hbel2⟩
                case measure => simp [intOf] <;> omega
            · have hc := hblk.cell 1
              cases hh : hits b k true with
              | true =>
                obtain ⟨_, e1, e2, e3⟩ := un_found b k true (by omega) Hne.out hh
                have HE := Lib.hid (And.intro e1 (And.intro e2 e3))
                unfold hits at hh
                have HH := Lib.hid hh
                clear hh e1 e2 e3
                go_wp2_with (first
                  | (go_at_call 96; (with_reducible refine (nhalves_l a n c m b Hn.out Hm.out _ (h.below hbel) (by omega)).mono ?_); rintro e w1 ⟨a1, c1, rfl, h1, b1⟩; obtain ⟨a2, c2, hs2, h2⟩ := Key.out true _ _ _ h1)
                  | (go_at_call 41; (with_reducible refine (ntag_part a2 q c2 b k true Hdl.out _ h2 hqb).mono ?_); rintro e w2 ⟨v2, rfl, h3, b2⟩; have hbel2 := Below.then (Below.then hbel b1) b2; have hs4 := str_conv h3; have hs5 := str_conv (h.below hbel2); have hs6 := HH.out))
                go_ret3
                have h2' := RowOf.kept h2 b2
                exact ⟨_, by rw [HE.out.1, HE.out.2.2]; rfl, by rw [HE.out.2.1]; exact h2', hbel2⟩
              | false =>
                have HN := Lib.hid hh
                unfold hits at hh
                have HH := Lib.hid hh
                clear hh
                go_wp2_with (first
                  | (go_at_call 96; (with_reducible refine (nhalves_l a n c m b Hn.out Hm.out _ (h.below hbel) (by omega)).mono ?_); rintro e w1 ⟨a1, c1, rfl, h1, b1⟩; obtain ⟨a2, c2, hs2, h2⟩ := Key.out true _ _ _ h1)
                  | (go_at_call 41; (with_reducible refine (ntag_part a2 q c2 b k true Hdl.out _ h2 hqb).mono ?_); rintro e w2 ⟨v2, rfl, h3, b2⟩; have hbel2 := Below.then (Below.then hbel b1) b2; have hs4 := str_conv h3; have hs5 := str_conv (h.below hbel2); have hs6 := HH.out))
                have hblk2 := (hblk.kept b1).kept b2
                go_roundw
                case rel => exact ⟨2, by omega, by first | rfl | go_num, fun _ => Hf.out (by omega), by first | exact fun _ => HN.out | trivial | (intros; first | trivial | exact HN.out), hblk2, hbel2⟩
                case measure => simp [intOf] <;> omega
          · obtain rfl : j = 2 := by omega
            have HK := Lib.hid (And.intro (Hf.out (by omega)) (Ht.out (by omega)))
            go_wp2
            go_roundw
            case rel => exact ⟨k + 1, by omega, by omega, by go_num, fun j leaf h1 h2 => by
              by_cases hjk : j < k
              · exact Hall.out j leaf h1 hjk
              · obtain rfl : j = k := by omega
                cases leaf
                · exact HK.out.1
                · exact HK.out.2, hbel⟩
            case measure => simp [intOf]; omega
    · obtain rfl : k = 3 := by omega
      obtain ⟨_, e1, e2, e3⟩ := un_none b (.inr (fun k leaf hk => Hall.out k leaf (by omega) (by omega)))
      have HE := Lib.hid (And.intro e1 (And.intro e2 e3))
      clear e1 e2 e3
      go_wp2
      go_ret3
      exact ⟨_, by rw [HE.out.1, HE.out.2.2]; rfl, by rw [HE.out.2.1]; exact RowOf.nil _ _ _, hbel⟩
end Go.Proofs.Ytgmdbleeagfhpaa
