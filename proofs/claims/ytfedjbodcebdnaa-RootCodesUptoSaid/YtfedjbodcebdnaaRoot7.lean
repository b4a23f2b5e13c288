/- The reference's shapeItem: of nothing, of no kind. -/
import Derived.Test.YtfedjbodcebdnaaRoot6
set_option linter.unusedSimpArgs false
set_option linter.unusedVariables false
namespace Go.Proofs.Ytfedjbodcebdnaa
open Go.RowKit
theorem wrong_step (p : List UInt8) (k : Nat) (hk : k < p.length) : (!wrongB (p.take (k + 1))) = ((!wrongB (p.take k)) && decide ((p[k]).toNat < 16)) := by
  rw [List.take_succ_eq_append_getElem hk, wrong_app]
  unfold wrongB
  simp only [List.any_cons, List.any_nil, Bool.or_false]
  cases ((p.take k).any fun x => decide (15 < x.toNat)) with
  | true => simp
  | false =>
    rw [Bool.false_or, Bool.not_false, Bool.true_and, Bool.eq_iff_iff]
    simp
    omega
set_option maxHeartbeats 1000000 in
set_option maxRecDepth 100000 in
theorem sitem_none (pa va ka : Option Addr) (pn pc vn vc kn kc : Nat) (p : List UInt8) (hpn : p.length = pn) (w : World) (hp : Bytes w (.slice pa pn pc) p) (hP : pn ≤ 1048576) :
    Calls Try.prog 87 #[.agg #[.int .i64 0, .slice pa pn pc, .slice va vn vc, .slice ka kn kc]] w (ItemPost true (textB []) w) := by
  have hs1 : Blk 70 ((w.alloc (.cells #[.int .i64 0, .slice pa pn pc, .slice va vn vc, .slice ka kn kc] 70)).alloc (.cells #[.bool false, .slice none 0 0, .slice none 0 0] 37)) w.heap.size [.int .i64 0, .slice pa pn pc, .slice va vn vc, .slice ka kn kc] := (Blk.new w 70 _).alloc _
  have hz1 : Blk 37 ((w.alloc (.cells #[.int .i64 0, .slice pa pn pc, .slice va vn vc, .slice ka kn kc] 70)).alloc (.cells #[.bool false, .slice none 0 0, .slice none 0 0] 37)) (w.heap.size + 1) [.bool false, .slice none 0 0, .slice none 0 0] := by
    have := Blk.new (w.alloc (.cells #[.int .i64 0, .slice pa pn pc, .slice va vn vc, .slice ka kn kc] 70)) 37 [.bool false, .slice none 0 0, .slice none 0 0]
    simpa using this
  have hbel1 : Below w.heap.size w ((w.alloc (.cells #[.int .i64 0, .slice pa pn pc, .slice va vn vc, .slice ka kn kc] 70)).alloc (.cells #[.bool false, .slice none 0 0, .slice none 0 0] 37)) := ((Below.refl _ _).alloc (Nat.le_refl _) _).alloc (by simp) _
  obtain ⟨w1, hw1⟩ : ∃ w1, w1 = (w.alloc (.cells #[.int .i64 0, .slice pa pn pc, .slice va vn vc, .slice ka kn kc] 70)).alloc (.cells #[.bool false, .slice none 0 0, .slice none 0 0] 37) := ⟨_, rfl⟩
  rw [← hw1] at hs1 hz1 hbel1
  have hp1 := hp.below hbel1
  have Hw1 := Lib.hid hw1
  have Hpn := Lib.hid hpn
  clear hw1
  go_enter Try.func87, Try.ntmps87
  go_wp2_with fail
  rw [← Hw1.out]
  have c0 := (hs1.cell 0).trans (show _ = some (Value.int .i64 0) from rfl)
  have c1 := (hs1.cell 1).trans (show _ = some (Value.slice pa pn pc) from rfl)
  have c2 := (hs1.cell 2).trans (show _ = some (Value.slice va vn vc) from rfl)
  have c3 := (hs1.cell 3).trans (show _ = some (Value.slice ka kn kc) from rfl)
  go_loopw [4, 20] (fun t4 ix wr => ∃ k : Nat, k ≤ pn ∧ ix = .int .i64 (k : Int) ∧ t4 = .bool (!wrongB (p.take k)) ∧ wr = w1) (fun _ ix _ => pn - (intOf ix).toNat)
  case atStart => exact ⟨0, by omega, rfl, by simp [wrongB], rfl⟩
  case round =>
    obtain ⟨k, hk', rfl, rfl, rfl⟩ := hrel
    by_cases hlt : k < pn
    · have hki : (k : Int) < (pn : Int) := by omega
      obtain ⟨b, off, rfl, hc⟩ := Bytes.at hp1 k (by rw [Hpn.out]; exact hlt)
      have hstep := wrong_step p k (by rw [Hpn.out]; exact hlt)
      obtain ⟨x, hx⟩ : ∃ x, x = p[k]'(by rw [Hpn.out]; exact hlt) := ⟨_, rfl⟩
      rw [← hx] at hc hstep
      obtain ⟨b0, hb0⟩ : ∃ b0, b0 = (!wrongB (p.take k)) := ⟨_, rfl⟩
      obtain ⟨b1, hb1⟩ : ∃ b1, b1 = (!wrongB (p.take (k + 1))) := ⟨_, rfl⟩
      rw [← hb0, ← hb1] at hstep
      rw [← hb0]
      have Hb1 := Lib.hid hb1
      have hxd : decide ((x.toNat : Int) < 16) = decide (x.toNat < 16) := by
        rw [Bool.eq_iff_iff]; simp only [decide_eq_true_eq]; omega
      obtain ⟨bx, hbx⟩ : ∃ bx, bx = decide (x.toNat < 16) := ⟨_, rfl⟩
      rw [← hbx] at hxd hstep
      have Hstep := Lib.hid hstep
      clear hstep hb0 hb1 hx hbx
      cases b0
      all_goals
        go_wp2
        go_roundw
        case rel => exact ⟨k + 1, by omega, by go_num, by rw [← Hb1.out, Hstep.out]; rfl, by first | trivial | rfl⟩
        case measure => simp [intOf]; omega
    · obtain rfl : k = pn := by omega
      have htk : p.take k = p := List.take_of_length_le (by rw [Hpn.out]; omega)
      rw [htk]
      clear htk hp1
      go_wp2_with (first
        | (go_at_call 63; (with_reducible refine (ptext_any _ _ _ _).mono ?_); rintro e w3 ⟨rfl, b3⟩; have hz3 := hz1.kept b3; have hbel3 := Below.then hbel1 b3)
        | ((with_reducible show wpList _ _ _ (⟨none, Op.store _ _ (Operand.tmp 34), _, _, _, _⟩ :: _) _ _); refine wpList_storeA (o := ⟨none, _, _, _, _, _⟩) (by rfl) 37 (.tmp 2) (.tmp 34) (by rfl) (w.heap.size + 1) [.bool false, .slice none 0 0, .slice none 0 0] (by rfl) (by rfl) aggItem hz3 (by rfl) (by rfl) (by intro u hu; simp at hu; rcases hu with rfl | rfl <;> rfl) (Below.refl _ _) (Nat.le_refl _) ?_; intro w5 hh5 _ hg5; have hbel5 := hbel3.grown hg5 hbel3.size (fun j hj => by cases hj; omega)))
      exact bodyPost_ret (results_blk_tmp rfl _ _ (w.heap.size + 1) aggItem hh5 rfl rfl rfl) rfl ⟨false, none, 0, 0, [], none, 0, 0, [], rfl, fun _ => ⟨IsItm.txt (RowOf.nil b8 1 w5), encI_txt _ _, by rw [show bulkI (.mk false (.slice none 0 0) [] (.slice none 0 0) []) = bulkI (txt (.slice none 0 0) []) from rfl, bulk_txt]; simp⟩, hbel5⟩
set_option maxHeartbeats 1000000 in
set_option maxRecDepth 100000 in
theorem sitem_else (kd : Int) (h0 : kd ≠ 0) (h1 : kd ≠ 1) (h2 : kd ≠ 2) (h3 : kd ≠ 3) (pa va ka : Option Addr) (pn pc vn vc kn kc : Nat) (p : List UInt8) (hpn : p.length = pn) (w : World) (hp : Bytes w (.slice pa pn pc) p) (hP : pn ≤ 1048576) :
    Calls Try.prog 87 #[.agg #[.int .i64 kd, .slice pa pn pc, .slice va vn vc, .slice ka kn kc]] w (ItemPost false [] w) := by
  have hs1 : Blk 70 ((w.alloc (.cells #[.int .i64 kd, .slice pa pn pc, .slice va vn vc, .slice ka kn kc] 70)).alloc (.cells #[.bool false, .slice none 0 0, .slice none 0 0] 37)) w.heap.size [.int .i64 kd, .slice pa pn pc, .slice va vn vc, .slice ka kn kc] := (Blk.new w 70 _).alloc _
  have hz1 : Blk 37 ((w.alloc (.cells #[.int .i64 kd, .slice pa pn pc, .slice va vn vc, .slice ka kn kc] 70)).alloc (.cells #[.bool false, .slice none 0 0, .slice none 0 0] 37)) (w.heap.size + 1) [.bool false, .slice none 0 0, .slice none 0 0] := by
    have := Blk.new (w.alloc (.cells #[.int .i64 kd, .slice pa pn pc, .slice va vn vc, .slice ka kn kc] 70)) 37 [.bool false, .slice none 0 0, .slice none 0 0]
    simpa using this
  have hbel1 : Below w.heap.size w ((w.alloc (.cells #[.int .i64 kd, .slice pa pn pc, .slice va vn vc, .slice ka kn kc] 70)).alloc (.cells #[.bool false, .slice none 0 0, .slice none 0 0] 37)) := ((Below.refl _ _).alloc (Nat.le_refl _) _).alloc (by simp) _
  obtain ⟨w1, hw1⟩ : ∃ w1, w1 = (w.alloc (.cells #[.int .i64 kd, .slice pa pn pc, .slice va vn vc, .slice ka kn kc] 70)).alloc (.cells #[.bool false, .slice none 0 0, .slice none 0 0] 37) := ⟨_, rfl⟩
  rw [← hw1] at hs1 hz1 hbel1
  have hp1 := hp.below hbel1
  have Hw1 := Lib.hid hw1
  have Hpn := Lib.hid hpn
  clear hw1
  have e0 : (kd == 0) = false := by rw [beq_eq_false_iff_ne]; exact h0
  have e1 : (kd == 1) = false := by rw [beq_eq_false_iff_ne]; exact h1
  have e2 : (kd == 2) = false := by rw [beq_eq_false_iff_ne]; exact h2
  have e3 : (kd == 3) = false := by rw [beq_eq_false_iff_ne]; exact h3
  clear h0 h1 h2 h3
  go_enter Try.func87, Try.ntmps87
  go_wp2_with fail
  rw [← Hw1.out]
  have c0 := (hs1.cell 0).trans (show _ = some (Value.int .i64 kd) from rfl)
  have c1 := (hs1.cell 1).trans (show _ = some (Value.slice pa pn pc) from rfl)
  have c2 := (hs1.cell 2).trans (show _ = some (Value.slice va vn vc) from rfl)
  have c3 := (hs1.cell 3).trans (show _ = some (Value.slice ka kn kc) from rfl)
  go_loopw [4, 20] (fun t4 ix wr => ∃ k : Nat, k ≤ pn ∧ ix = .int .i64 (k : Int) ∧ t4 = .bool (!wrongB (p.take k)) ∧ wr = w1) (fun _ ix _ => pn - (intOf ix).toNat)
  case atStart => exact ⟨0, by omega, rfl, by simp [wrongB], rfl⟩
  case round =>
    obtain ⟨k, hk', rfl, rfl, rfl⟩ := hrel
    by_cases hlt : k < pn
    · have hki : (k : Int) < (pn : Int) := by omega
      obtain ⟨b, off, rfl, hc⟩ := Bytes.at hp1 k (by rw [Hpn.out]; exact hlt)
      have hstep := wrong_step p k (by rw [Hpn.out]; exact hlt)
      obtain ⟨x, hx⟩ : ∃ x, x = p[k]'(by rw [Hpn.out]; exact hlt) := ⟨_, rfl⟩
      rw [← hx] at hc hstep
      obtain ⟨b0, hb0⟩ : ∃ b0, b0 = (!wrongB (p.take k)) := ⟨_, rfl⟩
      obtain ⟨b1, hb1⟩ : ∃ b1, b1 = (!wrongB (p.take (k + 1))) := ⟨_, rfl⟩
      rw [← hb0, ← hb1] at hstep
      rw [← hb0]
      have Hb1 := Lib.hid hb1
      have hxd : decide ((x.toNat : Int) < 16) = decide (x.toNat < 16) := by
        rw [Bool.eq_iff_iff]; simp only [decide_eq_true_eq]; omega
      obtain ⟨bx, hbx⟩ : ∃ bx, bx = decide (x.toNat < 16) := ⟨_, rfl⟩
      rw [← hbx] at hxd hstep
      have Hstep := Lib.hid hstep
      clear hstep hb0 hb1 hx hbx
      cases b0
      all_goals
        go_wp2
        go_roundw
        case rel => exact ⟨k + 1, by omega, by go_num, by rw [← Hb1.out, Hstep.out]; rfl, by first | trivial | rfl⟩
        case measure => simp [intOf]; omega
    · obtain rfl : k = pn := by omega
      have htk : p.take k = p := List.take_of_length_le (by rw [Hpn.out]; omega)
      rw [htk]
      clear htk hp1
      go_wp2_with ((with_reducible show wpList _ _ _ (⟨none, Op.store _ _ (Operand.tmp 172), _, _, _, _⟩ :: _) _ _); refine wpList_storeA (o := ⟨none, _, _, _, _, _⟩) (by rfl) 37 (.tmp 2) (.tmp 172) (by rfl) (w.heap.size + 1) [.bool false, .slice none 0 0, .slice none 0 0] (by rfl) (by rfl) aggItem hz1 (by rfl) (by rfl) (by intro u hu; simp at hu; rcases hu with rfl | rfl <;> rfl) (Below.refl _ _) (Nat.le_refl _) ?_; intro w5 hh5 _ hg5; have hbel5 := hbel1.grown hg5 hbel1.size (fun j hj => by cases hj; omega))
      exact bodyPost_ret (results_blk_tmp rfl _ _ (w.heap.size + 1) aggItem hh5 rfl rfl rfl) rfl ⟨false, none, 0, 0, [], none, 0, 0, [], rfl, fun h => by simp at h, hbel5⟩
end Go.Proofs.Ytfedjbodcebdnaa
