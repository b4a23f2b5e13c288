/- code.Name: the whole. -/
import Derived.Test.YtkgfijdodbkkgaaDoorCname2
import Derived.Test.YtkgfijdodbkkgaaDoorStr
set_option linter.unusedSimpArgs false
set_option linter.unusedVariables false
namespace Go.Proofs.YtkgfijdodbkkgaaDoor
open Go.RowKit
theorem ba_add (q p : List UInt8) : (⟨q.toArray⟩ ++ ⟨p.toArray⟩ : ByteArray) = ⟨(q ++ p).toArray⟩ := by
  apply ba_ext
  simp [ByteArray.data_append]
theorem dec_small (i : Nat) (h : i < 100) : (Lib.decDigits i).length ≤ 100 := by
  have : (List.range 100).all (fun i => decide ((Lib.decDigits i).length ≤ 100)) = true := by kernel_rfl
  exact of_decide_eq_true (List.all_eq_true.1 this i (List.mem_range.2 h))
set_option maxHeartbeats 4000000 in
set_option maxRecDepth 100000 in
theorem name_any (x : Nat) (hx : x < 256) (w : World) : Calls Tryd.prog 20 #[.int .u8 (x : Int)] w fun e w' => e = .returned (.string ⟨(nmP x).toArray⟩) ∧ Below w.heap.size w w' := by
  have hwx : IntKind.i64.wrap (x : Int) = (x : Int) := IntWalk.i64_in _ (by omega)
  by_cases c32 : x < 32
  · have ps := cpush_any x hx w
    rw [if_neg (by omega)] at ps
    have Ps := Lib.hid ps
    clear ps
    have hg : nmP x = reckP x := by unfold nmP inGrp; rw [if_neg (by simp; omega), if_pos (by omega)]
    have d128 : decide ((128 : Int) ≤ (x : Int)) = false := by rw [decide_eq_false_iff_not]; omega
    have d144l : decide ((x : Int) < 144) = true := by rw [decide_eq_true_eq]; omega
    have d144 : decide ((144 : Int) ≤ (x : Int)) = false := by rw [decide_eq_false_iff_not]; omega
    have d160l : decide ((x : Int) < 160) = true := by rw [decide_eq_true_eq]; omega
    have d160 : decide ((160 : Int) ≤ (x : Int)) = false := by rw [decide_eq_false_iff_not]; omega
    have d162 : decide ((x : Int) ≤ 162) = true := by rw [decide_eq_true_eq]; omega
    have d32 : decide ((x : Int) < 32) = true := by rw [decide_eq_true_eq]; omega
    rw [hg]
    have Cc := Lib.hid (fun u => reck_any x hx u)
    clear hg
    go_enter Tryd.func20, Tryd.ntmps20
    go_wp2_with (first
      | (go_at_call 21; (with_reducible refine Ps.out.mono ?_); rintro e w1 ⟨rfl, b1⟩)
      | (go_at_call 29; (with_reducible refine (Cc.out _).mono ?_); rintro e w2 ⟨rfl, b2⟩))
    go_ret
    exact ⟨rfl, Below.then b1 b2⟩
  · skip
    by_cases c96 : x < 96
    · have ps := cpush_any x hx w
      rw [if_neg (by omega)] at ps
      have Ps := Lib.hid ps
      clear ps
      have hg : nmP x = othP x := by unfold nmP inGrp; rw [if_neg (by simp; omega), if_neg (by omega)]
      have d128 : decide ((128 : Int) ≤ (x : Int)) = false := by rw [decide_eq_false_iff_not]; omega
      have d144l : decide ((x : Int) < 144) = true := by rw [decide_eq_true_eq]; omega
      have d144 : decide ((144 : Int) ≤ (x : Int)) = false := by rw [decide_eq_false_iff_not]; omega
      have d160l : decide ((x : Int) < 160) = true := by rw [decide_eq_true_eq]; omega
      have d160 : decide ((160 : Int) ≤ (x : Int)) = false := by rw [decide_eq_false_iff_not]; omega
      have d162 : decide ((x : Int) ≤ 162) = true := by rw [decide_eq_true_eq]; omega
      have d32 : decide ((x : Int) < 32) = false := by rw [decide_eq_false_iff_not]; omega
      rw [hg]
      have Cc := Lib.hid (fun u => oth_any x hx u)
      clear hg
      go_enter Tryd.func20, Tryd.ntmps20
      go_wp2_with (first
        | (go_at_call 21; (with_reducible refine Ps.out.mono ?_); rintro e w1 ⟨rfl, b1⟩)
        | (go_at_call 30; (with_reducible refine (Cc.out _).mono ?_); rintro e w2 ⟨rfl, b2⟩))
      go_ret
      exact ⟨rfl, Below.then b1 b2⟩
    · skip
      by_cases c128 : x < 128
      · have ps := cpush_any x hx w
        rw [if_pos (by omega)] at ps
        have Ps := Lib.hid ps
        clear ps
        obtain ⟨i, hi⟩ : ∃ i, i = x - 95 := ⟨_, rfl⟩
        rw [← hi] at Ps
        have hi0 : (0 : Int) < (i : Int) := by omega
        have hg : nmP x = [112, 117, 115, 104] ++ Lib.decDigits i := by unfold nmP grp inGrp; rw [if_pos (by simp; omega), if_pos (by omega), hi]
        have d128 : decide ((128 : Int) ≤ (x : Int)) = false := by rw [decide_eq_false_iff_not]; omega
        have d144l : decide ((x : Int) < 144) = true := by rw [decide_eq_true_eq]; omega
        have d144 : decide ((144 : Int) ≤ (x : Int)) = false := by rw [decide_eq_false_iff_not]; omega
        have d160l : decide ((x : Int) < 160) = true := by rw [decide_eq_true_eq]; omega
        have d160 : decide ((160 : Int) ≤ (x : Int)) = false := by rw [decide_eq_false_iff_not]; omega
        have d162 : decide ((x : Int) ≤ 162) = true := by rw [decide_eq_true_eq]; omega
        have d32 : decide ((x : Int) < 32) = false := by rw [decide_eq_false_iff_not]; omega
        rw [hg]
        have It := Lib.hid (fun u => itoa_any i (by omega) u)
        obtain ⟨D, hD⟩ : ∃ D, D = Lib.decDigits i := ⟨_, rfl⟩
        rw [← hD]
        simp only [← hD] at It
        have hDs : (D.length : Nat) ≤ 100 := by rw [hD]; exact dec_small i (by omega)
        have hba := ba_add [112, 117, 115, 104] D
        have Hba := Lib.hid hba
        have hds : (⟨D.toArray⟩ : ByteArray).size = D.length := str_size D
        clear hg hD hba hi
        go_enter Tryd.func20, Tryd.ntmps20
        go_wp2_with (first
          | (go_at_call 21; (with_reducible refine Ps.out.mono ?_); rintro e w1 ⟨rfl, b1⟩)
          | (go_at_call 25; (try rw [hie]); (with_reducible refine (It.out _).mono ?_); rintro e w2 ⟨rfl, b2⟩))
        go_ret
        exact ⟨congrArg (fun b => Ending.returned (Value.string b)) Hba.out, Below.then b1 b2⟩
      · skip
        by_cases c144 : x < 144
        · have ps := cpush_any x hx w
          rw [if_neg (by omega)] at ps
          have Ps := Lib.hid ps
          clear ps
          obtain ⟨i, hi⟩ : ∃ i, i = x - 127 := ⟨_, rfl⟩
          have hg : nmP x = [100, 117, 112] ++ Lib.decDigits i := by unfold nmP grp inGrp; rw [if_pos (by simp; omega), if_neg (by omega), if_pos (by omega), hi]
          have hw1 : IntKind.i64.wrap ((x : Int) - 128) = (x : Int) - 128 := IntWalk.i64_in _ (by omega)
          have hw2 : IntKind.i64.wrap ((x : Int) - 128 + 1) = (x : Int) - 128 + 1 := IntWalk.i64_in _ (by omega)
          have hie : (x : Int) - 128 + 1 = (i : Int) := by omega
          have d128 : decide ((128 : Int) ≤ (x : Int)) = true := by rw [decide_eq_true_eq]; omega
          have d144l : decide ((x : Int) < 144) = true := by rw [decide_eq_true_eq]; omega
          have d144 : decide ((144 : Int) ≤ (x : Int)) = false := by rw [decide_eq_false_iff_not]; omega
          have d160l : decide ((x : Int) < 160) = true := by rw [decide_eq_true_eq]; omega
          have d160 : decide ((160 : Int) ≤ (x : Int)) = false := by rw [decide_eq_false_iff_not]; omega
          have d162 : decide ((x : Int) ≤ 162) = true := by rw [decide_eq_true_eq]; omega
          have d32 : decide ((x : Int) < 32) = false := by rw [decide_eq_false_iff_not]; omega
          rw [hg]
          have It := Lib.hid (fun u => itoa_any i (by omega) u)
          obtain ⟨D, hD⟩ : ∃ D, D = Lib.decDigits i := ⟨_, rfl⟩
          rw [← hD]
          simp only [← hD] at It
          have hDs : (D.length : Nat) ≤ 100 := by rw [hD]; exact dec_small i (by omega)
          have hba := ba_add [100, 117, 112] D
          have Hba := Lib.hid hba
          have hds : (⟨D.toArray⟩ : ByteArray).size = D.length := str_size D
          clear hg hD hba hi
          go_enter Tryd.func20, Tryd.ntmps20
          go_wp2_with (first
            | (go_at_call 21; (with_reducible refine Ps.out.mono ?_); rintro e w1 ⟨rfl, b1⟩)
            | (go_at_call 25; (try rw [hie]); (with_reducible refine (It.out _).mono ?_); rintro e w2 ⟨rfl, b2⟩))
          go_ret
          exact ⟨congrArg (fun b => Ending.returned (Value.string b)) Hba.out, Below.then b1 b2⟩
        · skip
          by_cases c160 : x < 160
          · have ps := cpush_any x hx w
            rw [if_neg (by omega)] at ps
            have Ps := Lib.hid ps
            clear ps
            obtain ⟨i, hi⟩ : ∃ i, i = x - 143 := ⟨_, rfl⟩
            have hg : nmP x = [115, 119, 97, 112] ++ Lib.decDigits i := by unfold nmP grp inGrp; rw [if_pos (by simp; omega), if_neg (by omega), if_neg (by omega), if_pos (by omega), hi]
            have hw1 : IntKind.i64.wrap ((x : Int) - 144) = (x : Int) - 144 := IntWalk.i64_in _ (by omega)
            have hw2 : IntKind.i64.wrap ((x : Int) - 144 + 1) = (x : Int) - 144 + 1 := IntWalk.i64_in _ (by omega)
            have hie : (x : Int) - 144 + 1 = (i : Int) := by omega
            have d128 : decide ((128 : Int) ≤ (x : Int)) = true := by rw [decide_eq_true_eq]; omega
            have d144l : decide ((x : Int) < 144) = false := by rw [decide_eq_false_iff_not]; omega
            have d144 : decide ((144 : Int) ≤ (x : Int)) = true := by rw [decide_eq_true_eq]; omega
            have d160l : decide ((x : Int) < 160) = true := by rw [decide_eq_true_eq]; omega
            have d160 : decide ((160 : Int) ≤ (x : Int)) = false := by rw [decide_eq_false_iff_not]; omega
            have d162 : decide ((x : Int) ≤ 162) = true := by rw [decide_eq_true_eq]; omega
            have d32 : decide ((x : Int) < 32) = false := by rw [decide_eq_false_iff_not]; omega
            rw [hg]
            have It := Lib.hid (fun u => itoa_any i (by omega) u)
            obtain ⟨D, hD⟩ : ∃ D, D = Lib.decDigits i := ⟨_, rfl⟩
            rw [← hD]
            simp only [← hD] at It
            have hDs : (D.length : Nat) ≤ 100 := by rw [hD]; exact dec_small i (by omega)
            have hba := ba_add [115, 119, 97, 112] D
            have Hba := Lib.hid hba
            have hds : (⟨D.toArray⟩ : ByteArray).size = D.length := str_size D
            clear hg hD hba hi
            go_enter Tryd.func20, Tryd.ntmps20
            go_wp2_with (first
              | (go_at_call 21; (with_reducible refine Ps.out.mono ?_); rintro e w1 ⟨rfl, b1⟩)
              | (go_at_call 25; (try rw [hie]); (with_reducible refine (It.out _).mono ?_); rintro e w2 ⟨rfl, b2⟩))
            go_ret
            exact ⟨congrArg (fun b => Ending.returned (Value.string b)) Hba.out, Below.then b1 b2⟩
          · skip
            by_cases c163 : x < 163
            · have ps := cpush_any x hx w
              rw [if_neg (by omega)] at ps
              have Ps := Lib.hid ps
              clear ps
              obtain ⟨i, hi⟩ : ∃ i, i = x - 160 := ⟨_, rfl⟩
              have hg : nmP x = [108, 111, 103] ++ Lib.decDigits i := by unfold nmP grp inGrp; rw [if_pos (by simp; omega), if_neg (by omega), if_neg (by omega), if_neg (by omega), hi]
              have hw1 : IntKind.i64.wrap ((x : Int) - 160) = (x : Int) - 160 := IntWalk.i64_in _ (by omega)
              have hie : (x : Int) - 160 = (i : Int) := by omega
              have d128 : decide ((128 : Int) ≤ (x : Int)) = true := by rw [decide_eq_true_eq]; omega
              have d144l : decide ((x : Int) < 144) = false := by rw [decide_eq_false_iff_not]; omega
              have d144 : decide ((144 : Int) ≤ (x : Int)) = true := by rw [decide_eq_true_eq]; omega
              have d160l : decide ((x : Int) < 160) = false := by rw [decide_eq_false_iff_not]; omega
              have d160 : decide ((160 : Int) ≤ (x : Int)) = true := by rw [decide_eq_true_eq]; omega
              have d162 : decide ((x : Int) ≤ 162) = true := by rw [decide_eq_true_eq]; omega
              have d32 : decide ((x : Int) < 32) = false := by rw [decide_eq_false_iff_not]; omega
              rw [hg]
              have It := Lib.hid (fun u => itoa_any i (by omega) u)
              obtain ⟨D, hD⟩ : ∃ D, D = Lib.decDigits i := ⟨_, rfl⟩
              rw [← hD]
              simp only [← hD] at It
              have hDs : (D.length : Nat) ≤ 100 := by rw [hD]; exact dec_small i (by omega)
              have hba := ba_add [108, 111, 103] D
              have Hba := Lib.hid hba
              have hds : (⟨D.toArray⟩ : ByteArray).size = D.length := str_size D
              clear hg hD hba hi
              go_enter Tryd.func20, Tryd.ntmps20
              go_wp2_with (first
                | (go_at_call 21; (with_reducible refine Ps.out.mono ?_); rintro e w1 ⟨rfl, b1⟩)
                | (go_at_call 25; (try rw [hie]); (with_reducible refine (It.out _).mono ?_); rintro e w2 ⟨rfl, b2⟩))
              go_ret
              exact ⟨congrArg (fun b => Ending.returned (Value.string b)) Hba.out, Below.then b1 b2⟩
            · skip
              have ps := cpush_any x hx w
              rw [if_neg (by omega)] at ps
              have Ps := Lib.hid ps
              clear ps
              have hg : nmP x = othP x := by unfold nmP inGrp; rw [if_neg (by simp; omega), if_neg (by omega)]
              have d128 : decide ((128 : Int) ≤ (x : Int)) = true := by rw [decide_eq_true_eq]; omega
              have d144l : decide ((x : Int) < 144) = false := by rw [decide_eq_false_iff_not]; omega
              have d144 : decide ((144 : Int) ≤ (x : Int)) = true := by rw [decide_eq_true_eq]; omega
              have d160l : decide ((x : Int) < 160) = false := by rw [decide_eq_false_iff_not]; omega
              have d160 : decide ((160 : Int) ≤ (x : Int)) = true := by rw [decide_eq_true_eq]; omega
              have d162 : decide ((x : Int) ≤ 162) = false := by rw [decide_eq_false_iff_not]; omega
              have d32 : decide ((x : Int) < 32) = false := by rw [decide_eq_false_iff_not]; omega
              rw [hg]
              have Cc := Lib.hid (fun u => oth_any x hx u)
              clear hg
              go_enter Tryd.func20, Tryd.ntmps20
              go_wp2_with (first
                | (go_at_call 21; (with_reducible refine Ps.out.mono ?_); rintro e w1 ⟨rfl, b1⟩)
                | (go_at_call 30; (with_reducible refine (Cc.out _).mono ?_); rintro e w2 ⟨rfl, b2⟩))
              go_ret
              exact ⟨rfl, Below.then b1 b2⟩
end Go.Proofs.YtkgfijdodbkkgaaDoor
