/- The reference's XParse. -/
import Derived.Test.YtkgfijdodbkkgaaDoorHex5
set_option linter.unusedSimpArgs false
set_option linter.unusedVariables false
namespace Go.Proofs.YtkgfijdodbkkgaaDoor
open Go.RowKit
theorem sixteen_bel (x : UInt8) (w : World) : Calls Tryd.prog 23 #[.int .u8 (x.toNat : Int)] w fun e w' => e = .returned (.int .i64 (sixI x)) ∧ Below w.heap.size w w' :=
  (sixteen_any x w).mono fun e w' h => ⟨h.1, by rw [h.2]; exact Below.refl _ _⟩
theorem six_yes {x : UInt8} (h : (dg x).toNat < 16) : sixI x = ((dg x).toNat : Int) := by unfold sixI; rw [if_pos h]
theorem six_no {x : UInt8} (h : ¬ (dg x).toNat < 16) : sixI x = -1 := by unfold sixI; rw [if_neg h]
set_option maxHeartbeats 800000 in
set_option maxRecDepth 100000 in
theorem xparse_any (s : ByteArray) (hs : s.size ≤ 140737488351232) (w : World) :
    Calls Tryd.prog 11 #[.string s] w fun e w' => ∃ v, e = .returned (.tuple #[v, .int .i64 (parseE s.data.toList)]) ∧ OwnOf b8 1 5 w' w.heap.size v (parseR s.data.toList) ∧ Below w.heap.size w w' := by
  obtain ⟨L, hL⟩ : ∃ L, L = s.data.toList := ⟨_, rfl⟩
  have hlen : L.length = s.size := by rw [hL]; simp
  have hget : ∀ i (h : i < s.size), s[i]'h = L[i]'(by rw [hlen]; exact h) := by intro i h; subst hL; rfl
  have hpre : (s.extract 0 2).toList = L.take 2 := by rw [ByteArray.toList_eq, hL]; simp
  rw [← hL]
  clear hL
  by_cases h2 : s.size < 2
  · have hno := parse_no (L := L) (by unfold parseOk; rw [okH_short (by omega)]; rfl)
    have Hno := Lib.hid hno
    have d2 : decide ((s.size : Int) < 2) = true := by rw [decide_eq_true_eq]; omega
    have d2' : decide (s.size < 2) = true := by rw [decide_eq_true_eq]; omega
    clear hno hpre hget
    go_enter Tryd.func11, Tryd.ntmps11
    go_wp2
    go_ret2
    exact ⟨_, by rw [Hno.out.2]; rfl, by rw [Hno.out.1]; exact OwnOf.nil _ _ _ _ _, Below.refl _ _⟩
  · have d2 : decide ((s.size : Int) < 2) = false := by rw [decide_eq_false_iff_not]; omega
    have h2i : (2 : Int) ≤ (s.size : Int) := by omega
    have h2n : 2 ≤ s.size := by omega
    obtain ⟨T2, hT2⟩ : ∃ T2, T2 = L.take 2 := ⟨_, rfl⟩
    rw [← hT2] at hpre
    by_cases hp : T2 = [48, 120]
    · have hpb : ((s.extract 0 2).toList == [48, 120]) = true := by rw [hpre, hp]; rfl
      have hpb' : (s.extract 0 2).toList = [48, 120] := by rw [hpre, hp]
      have hL2 : ∃ t, L = 48 :: 120 :: t := by
        rw [hp] at hT2
        match L, hT2 with
        | a :: b :: t, hT2 => simp only [List.take_succ_cons, List.take_zero, List.cons.injEq, and_true] at hT2; exact ⟨t, by rw [hT2.1, hT2.2]⟩
      clear hp hpre hT2
      by_cases hodd : s.size % 2 = 1
      · have hno := parse_no (L := L) (by unfold parseOk; rw [Bool.and_eq_false_iff]; right; rw [beq_eq_false_iff_ne]; omega)
        have ht : ((s.size : Int) % 2 == 1) = true := by rw [beq_iff_eq]; omega
        have Hno := Lib.hid hno
        clear hno hget hL2 hpb
        go_enter Tryd.func11, Tryd.ntmps11
        go_wp2
        go_ret2
        exact ⟨_, by rw [Hno.out.2]; rfl, by rw [Hno.out.1]; exact OwnOf.nil _ _ _ _ _, Below.refl _ _⟩
      · have ht : ((s.size : Int) % 2 == 1) = false := by rw [beq_eq_false_iff_ne]; omega
        obtain ⟨t, ht2⟩ := hL2
        have hf0 : ∀ i (h : i < L.length), i < 2 → fineP i L[i] := by
          subst ht2
          intro i h hi
          rcases (show i = 0 ∨ i = 1 from by omega) with rfl | rfl <;> simp [fineP]
        obtain ⟨D, hD⟩ : ∃ D, D = (L.drop 2).map dg := ⟨_, rfl⟩
        have hDn : D.length + 2 = s.size := by rw [hD, List.length_map, List.length_drop]; omega
        have hDat : ∀ i (h : i < D.length) (h2 : i + 2 < L.length), D[i] = dg (L[i + 2]) := by
          intro i h h2; subst hD; simp [Nat.add_comm]
        have Hf0 := Lib.hid hf0
        have HD := Lib.hid hD
        have HDn := Lib.hid hDn
        have HDat := Lib.hid hDat
        have Hget := Lib.hid hget
        clear hf0 hD hDn hDat hget ht2 hpb
        go_enter Tryd.func11, Tryd.ntmps11
        go_wp2
        go_loopw [4, 5, 6, 7] (fun v i _ _ wr => ∃ j : Nat, 2 * j + 2 ≤ s.size ∧ i = .int .i64 ((2 * j + 2 : Nat) : Int) ∧ OwnOf b8 1 5 wr w.heap.size v (joinL (D.take (2 * j))) ∧ (∀ i (h : i < L.length), i < 2 * j + 2 → fineP i L[i]) ∧ Below w.heap.size w wr ∧ w.heap.size ≤ wr.heap.size) (fun _ i _ _ _ => s.size - (intOf i).toNat)
        case atStart => exact ⟨0, h2n, rfl, OwnOf.nil _ _ _ _ _, Hf0.out, Below.refl _ _, Nat.le_refl _⟩
        case round =>
          obtain ⟨j, hj, rfl, hown, hfine, hbel, hB⟩ := hrel
          by_cases hlt : 2 * j + 2 < s.size
          · obtain ⟨i0, hi0⟩ : ∃ i0, i0 = 2 * j + 2 := ⟨_, rfl⟩
            obtain ⟨i1, hi1⟩ : ∃ i1, i1 = i0 + 1 := ⟨_, rfl⟩
            have hi1s : i1 < s.size := by omega
            have hi0s : i0 < s.size := by omega
            have hx0 := Hget.out i0 hi0s
            have hy0 := Hget.out i1 hi1s
            obtain ⟨x, hx⟩ : ∃ x, x = L[i0]'(by omega) := ⟨_, rfl⟩
            obtain ⟨y, hy⟩ : ∃ y, y = L[i1]'(by omega) := ⟨_, rfl⟩
            rw [← hx] at hx0
            rw [← hy] at hy0
            have hfx : fineP i0 x ↔ (dg x).toNat < 16 := by unfold fineP; rw [if_neg (by omega), if_neg (by omega)]
            have hfy : fineP i1 y ↔ (dg y).toNat < 16 := by unfold fineP; rw [if_neg (by omega), if_neg (by omega)]
            have hnox : ¬ (dg x).toNat < 16 → parseOk L = false := fun h => by
              unfold parseOk; rw [okH_not i0 (by omega) (by rw [← hx]; exact fun q => h (hfx.1 q))]; rfl
            have hnoy : ¬ (dg y).toNat < 16 → parseOk L = false := fun h => by
              unfold parseOk; rw [okH_not i1 (by omega) (by rw [← hy]; exact fun q => h (hfy.1 q))]; rfl
            have hjt := join_take D j (by have := HDn.out; omega)
            have hdx : D[2 * j]'(by have := HDn.out; omega) = dg x := by rw [HDat.out _ _ (by omega)]; simp only [hx, hi0]
            have hdy : D[2 * j + 1]'(by have := HDn.out; omega) = dg y := by rw [HDat.out _ _ (by omega)]; simp only [hy, hi1, hi0]
            rw [hdx, hdy] at hjt
            have hf2 : (dg x).toNat < 16 → (dg y).toNat < 16 → ∀ i (h : i < L.length), i < 2 * (j + 1) + 2 → fineP i L[i] := by
              intro a1 a2 i h hi
              rcases Nat.lt_or_ge i (2 * j + 2) with h1 | h1
              · exact hfine i h h1
              · rcases (show i = i0 ∨ i = i1 from by omega) with rfl | rfl
                · rw [← hx]; exact hfx.2 a1
                · rw [← hy]; exact hfy.2 a2
            have hjl := joinL_le (D.take (2 * j))
            rw [List.length_take] at hjl
            obtain ⟨O, hO⟩ : ∃ O, O = joinL (D.take (2 * j)) := ⟨_, rfl⟩
            rw [← hO] at hown hjl hjt
            have hOl : O.length ≤ s.size := by have := HDn.out; omega
            rw [← hi0] at hlt ⊢
            have e1 : IntKind.i64.wrap ((i0 : Int) + 1) = (i1 : Int) := by rw [IntWalk.i64_in _ (by omega)]; omega
            have e1' : (i0 : Int) + 1 = (i1 : Int) := by omega
            have e2 : IntKind.i64.wrap (i1 : Int) = (i1 : Int) := IntWalk.i64_in _ (by omega)
            have g0 : (i0 : Int) < (s.size : Int) := by omega
            have g1 : (i1 : Int) < (s.size : Int) := by omega
            have hnext : (i0 : Int) + 2 = ((2 * (j + 1) + 2 : Nat) : Int) := by omega
            have h2j : 2 * (j + 1) + 2 ≤ s.size := by omega
            have Hjt := Lib.hid hjt
            have Hf2 := Lib.hid hf2
            have Hnox := Lib.hid hnox
            have Hnoy := Lib.hid hnoy
            have Hnext := Lib.hid hnext
            clear hjt hf2 hnox hnoy hO hx hy hi0 hi1 hnext hjl hfx hfy hdx hdy hj hfine
            go_wp2
            refine wp_region_typed wr 11 (by kernel_rfl) (by kernel_rfl) (Below.refl _ _) ?_; simp only [List.take_succ_cons, List.take_zero, List.take_nil]
            iterate 3 (refine wpX_step (by rfl) (fun K hK => ?_); go_simp; first | (refine hK _ ?_; clear hK K) | (apply Exists.intro; refine ⟨fun _ => ?_, hK _ ?_⟩; fail; clear hK K))
            (refine wpX_step (by rfl) (fun K hK => ?_); go_simp; first | (refine hK _ ?_; clear hK K) | (apply Exists.intro; refine ⟨fun _ => ?_, hK _ ?_⟩; exact sixteen_bel x _; clear hK K))
            iterate 4 (refine wpX_step (by rfl) (fun K hK => ?_); go_simp; first | (refine hK _ ?_; clear hK K) | (apply Exists.intro; refine ⟨fun _ => ?_, hK _ ?_⟩; fail; clear hK K))
            (refine wpX_step (by rfl) (fun K hK => ?_); go_simp; first | (refine hK _ ?_; clear hK K) | (apply Exists.intro; refine ⟨fun _ => ?_, hK _ ?_⟩; exact sixteen_bel y _; clear hK K))
            iterate 2 (refine wpX_step (by rfl) (fun K hK => ?_); go_simp; first | (refine hK _ ?_; clear hK K) | (apply Exists.intro; refine ⟨fun _ => ?_, hK _ ?_⟩; fail; clear hK K))
            refine wpX_end rfl ?_
            rintro w2 hw2
            simp only [List.reverse_nil, forallRel]
            have hbel2 := hbel.trans (hw2.mono hB)
            have hB2 := Nat.le_trans hB hw2.size
            have hown2 := hown.kept hw2
            by_cases a1 : (dg x).toNat < 16
            · rw [six_yes a1]
              by_cases a2 : (dg y).toNat < 16
              · rw [six_yes a2]
                have hf3 := Hf2.out a1 a2
                have Hf3 := Lib.hid hf3
                obtain ⟨pp, hpp⟩ : ∃ pp, pp = dg x := ⟨_, rfl⟩
                obtain ⟨qq, hqq⟩ : ∃ qq, qq = dg y := ⟨_, rfl⟩
                obtain ⟨z, hz⟩ : ∃ z, z = pp * 16 + qq := ⟨_, rfl⟩
                have hJ := Hjt.out
                rw [← hpp, ← hqq, ← hz] at hJ
                rw [← hpp] at a1 ⊢
                rw [← hqq] at a2 ⊢
                have hzz : 16 * (pp.toNat : Int) + (qq.toNat : Int) = (z.toNat : Int) := by
                  rw [hz, UInt8.toNat_add, UInt8.toNat_mul, show (16 : UInt8).toNat = 16 from rfl]; omega
                have hzw : IntKind.u8.wrap (z.toNat : Int) = (z.toNat : Int) := by have := u8_lt z; rw [IntKind.wrap_u8']; omega
                have n1 : decide ((pp.toNat : Int) < 0) = false := by rw [decide_eq_false_iff_not]; omega
                have n2 : decide ((qq.toNat : Int) < 0) = false := by rw [decide_eq_false_iff_not]; omega
                have b1 : (pp.toNat : Int) < 16 := by omega
                have b2 : (qq.toNat : Int) < 16 := by omega
                have HJ := Lib.hid hJ
                have hz8 := u8_lt z
                clear hJ hz hpp hqq hf3 a1 a2
                go_wp2_with (at_builtin; (refine wpList_app rfl (.tmp 43) (.tmp 49) 22 rfl elU8 rfl (hown2.alloc _) rfl (RowOf.made b8 1 _ [z] _ _ 1 rfl rfl rfl (by decide)) (hbel2.alloc hB2 _) (by simp; omega) (by simp; omega) (by simp [maxLen]; omega) ?_; intro v4 w4 hv4 hg4 _ hB4))
                go_roundw
                case rel => exact ⟨j + 1, h2j, val_int Hnext.out, by rw [show 2 * (j + 1) = 2 * j + 2 from rfl, HJ.out]; exact hv4, Hf3.out, hg4, hB4⟩
                case measure => simp [intOf]; omega
              · rw [six_no a2]
                have Hno := Lib.hid (parse_no (Hnoy.out a2))
                generalize dg x = pp at *
                have n1 : decide ((pp.toNat : Int) < 0) = false := by rw [decide_eq_false_iff_not]; omega
                clear a1 a2
                go_wp2
                go_ret2
                exact ⟨_, by rw [Hno.out.2]; rfl, by rw [Hno.out.1]; exact OwnOf.nil _ _ _ _ _, hbel2⟩
            · rw [six_no a1]
              have Hno := Lib.hid (parse_no (Hnox.out a1))
              clear a1
              go_wp2
              go_ret2
              exact ⟨_, by rw [Hno.out.2]; rfl, by rw [Hno.out.1]; exact OwnOf.nil _ _ _ _ _, hbel2⟩
          · have hjs : 2 * j + 2 = s.size := by omega
            have hyes := parse_yes (L := L) (by unfold parseOk; rw [okH_yes (by omega) (fun i h => hfine i h (by omega)), Bool.true_and, beq_iff_eq]; omega)
            rw [← HD.out] at hyes
            have hfin : D.take (2 * j) = D := List.take_of_length_le (by have := HDn.out; omega)
            rw [hfin] at hown
            have Hyes := Lib.hid hyes
            obtain ⟨i0, hi0⟩ : ∃ i0, i0 = 2 * j + 2 := ⟨_, rfl⟩
            rw [← hi0] at hjs ⊢
            have hdk : decide ((i0 : Int) < (s.size : Int)) = false := by rw [decide_eq_false_iff_not]; omega
            have hdk2 : decide (i0 < s.size) = false := by rw [decide_eq_false_iff_not]; omega
            clear hfin hyes hfine hi0 hlt hjs hj
            go_wp2
            go_ret2
            exact ⟨_, by rw [Hyes.out.2]; rfl, by rw [Hyes.out.1]; exact hown, hbel⟩
    · have hpb : ((s.extract 0 2).toList == [48, 120]) = false := by rw [hpre, beq_eq_false_iff_ne]; exact hp
      have hpb' : ¬ (s.extract 0 2).toList = [48, 120] := by rw [hpre]; exact hp
      have hno := parse_no (L := L) (by
        unfold parseOk
        rw [show okH L = false from by
          by_cases h0 : L[0]'(by omega) = 48
          · by_cases h1 : L[1]'(by omega) = 120
            · exfalso; apply hp
              rw [hT2]
              match L, hlen, h0, h1 with
              | [], hlen, _, _ => simp at hlen; omega
              | [a], hlen, _, _ => simp at hlen; omega
              | a :: b :: t, _, h0, h1 =>
                simp only [List.getElem_cons_zero, List.getElem_cons_succ] at h0 h1
                rw [h0, h1]; rfl
            · exact okH_not 1 (by omega) (by unfold fineP; simpa using h1)
          · exact okH_not 0 (by omega) (by unfold fineP; simpa using h0)]
        rfl)
      have Hno := Lib.hid hno
      clear hno hget hp hpre hT2 hpb
      go_enter Tryd.func11, Tryd.ntmps11
      go_wp2
      go_ret2
      exact ⟨_, by rw [Hno.out.2]; rfl, by rw [Hno.out.1]; exact OwnOf.nil _ _ _ _ _, Below.refl _ _⟩
end Go.Proofs.YtkgfijdodbkkgaaDoor
