/- The reference's VTally, VNamed; seats.Named. -/
import Derived.Test.YtffkjjpjfehcnaaDoorVote7
import Derived.Test.YtffkjjpjfehcnaaDoorVote8
set_option linter.unusedSimpArgs false
set_option linter.unusedVariables false
namespace Go.Proofs.YtffkjjpjfehcnaaDoor
open Go.RowKit
theorem elN : El0 Tryd.prog 22 23 (.int .u64 0) 1 8 u64c := ⟨by kernel_rfl, by kernel_rfl, rfl, by omega, fun _ => rfl⟩
set_option maxHeartbeats 2000000 in
set_option maxRecDepth 100000 in
theorem vtally_any (a : Option Addr) (n c : Nat) (l : List Nat) (hn : l.length = n) (hs : n ≤ 140737488355328) (s : List UInt8) (hsl : s.length = 32) (va : Option Addr) (vn vc : Nat) (V : List Vt) (hvn : V.length = vn) (hvs : vn ≤ 140737488355328)
    (w : World) (h : RowOf u64c 1 w (.slice a n c) l) (hv : RowOf vtc 33 w (.slice va vn vc) V) :
    Calls Tryd.prog 5 #[.slice a n c, .agg (by8 s).toArray, .slice va vn vc] w fun e w' => e = .returned (.int .u64 (tal (fun x => hasV V x s) (l.take 64) : Nat)) ∧ Below w.heap.size w w' := by
  have hz0 : Blk 25 (w.alloc (.cells (by8 s).toArray 25)) w.heap.size (by8 s) := Blk.new w _ _
  have hb0 : Below w.heap.size w (w.alloc (.cells (by8 s).toArray 25)) := (Below.refl _ _).alloc (Nat.le_refl _) _
  have hl32 : (by8 s).length = 32 := by rw [by8_len, hsl]
  obtain ⟨L, hL⟩ : ∃ L, L = l.take 64 := ⟨_, rfl⟩
  have hLl : L.length ≤ 64 := by rw [hL, List.length_take]; omega
  have hget : ∀ j, j < L.length → ∃ x, l[j]? = some x ∧ L.drop j = x :: L.drop (j + 1) ∧ j < n := fun j hj => by
    rw [hL, List.length_take] at hj
    refine ⟨l[j]'(by omega), List.getElem?_eq_getElem (by omega), ?_, by omega⟩
    rw [List.drop_eq_getElem_cons (by rw [hL, List.length_take]; omega)]
    congr 1
    simp [hL]
  have hcell : ∀ (j x : Nat), l[j]? = some x → ∀ u, Below w.heap.size w u → ∃ b off, a = some ⟨b, off, none⟩ ∧ u.cell? ⟨b, off + j, none⟩ = some (.int .u64 (x : Int)) := fun j x hx u hu => by
    obtain ⟨hj, he⟩ := List.getElem?_eq_some_iff.1 hx
    obtain ⟨b, off, e, hc⟩ := u64_at (h.below hu) j hj
    refine ⟨b, off, e, ?_⟩
    rw [hc]; unfold gv; rw [hx]; rfl
  have hlen : (n ≤ 64 → L.length = n) ∧ (64 < n → L.length = 64) := by
    rw [hL, List.length_take, hn]; omega
  rw [← hL]
  have Hget := Lib.hid hget
  have Hcell := Lib.hid hcell
  clear hget hcell hL hn h
  rcases (by omega : n ≤ 64 ∨ 64 < n) with h64 | h64
  · obtain hm := hlen.1 h64
    have h64i : (n : Int) ≤ 64 := by omega
    have h64j : ¬ (64 : Int) < (n : Int) := by omega
    clear hlen
    go_enter Tryd.func5, Tryd.ntmps5
    go_wp2_with fail
    try simp only [Act.put]
    go_loopw [7, 8] (fun mv ix wr => ∃ k : Nat, k ≤ L.length ∧ ix = .int .i64 ((k : Int) - 1) ∧ mv = .int .u64 (tal (fun x => hasV V x s) (L.drop k) : Nat) ∧ Blk 25 wr w.heap.size (by8 s) ∧ Below w.heap.size w wr) (fun _ ix _ => (intOf ix + 1).toNat)
    case atStart => exact ⟨L.length, Nat.le_refl _, by rw [hm], by rw [List.drop_length]; rfl, hz0, hb0⟩
    case round =>
      clear hz0 hb0
      obtain ⟨k, hk, rfl, rfl, hz, hb⟩ := hrel
      by_cases hlt : 0 < k
      · obtain ⟨j, rfl⟩ : ∃ j, k = j + 1 := ⟨k - 1, by omega⟩
        have hji : (((j + 1 : Nat) : Int) - 1) = (j : Int) := by omega
        rw [hji]
        have hj0 : (0 : Int) ≤ (j : Int) := by omega
        obtain ⟨x, hx, hdr, hjn⟩ := Hget.out j (by omega)
        obtain ⟨b2, off2, rfl, hc⟩ := Hcell.out j x hx wr hb
        have hjn2 : (j : Int) < (n : Int) := by omega
        have k1 := fun u : Ext wr => u.cell hc
        have RH := Lib.hid (Blk.all0 hz)
        have hT := tal_lt (fun x => hasV V x s) (L.drop (j + 1))
        rw [List.length_drop] at hT
        obtain ⟨T, hTe⟩ : ∃ T, T = tal (fun x => hasV V x s) (L.drop (j + 1)) := ⟨_, rfl⟩
        have hst : tal (fun x => hasV V x s) (L.drop j) = (if hasV V x s = true then 1 else 0) + 2 * T := by rw [hdr, tal, hTe]
        rw [← hTe] at hT ⊢
        have hT2 : T < 2 ^ 63 := Nat.lt_of_lt_of_le hT (Nat.pow_le_pow_right (by omega) (by omega))
        have h63 : (2 : Nat) ^ 63 = 9223372036854775808 := by decide
        have hw1 : IntKind.u64.wrap ((T : Int) * 2) = ((2 * T : Nat) : Int) := by rw [IntWalk.u64_in _ (by omega)]; omega
        have hw2 : IntKind.u64.wrap (((2 * T : Nat) : Int) + 1) = ((1 + 2 * T : Nat) : Int) := by rw [IntWalk.u64_in _ (by omega)]; omega
        have hw3 : (T : Int) * 2 = ((2 * T : Nat) : Int) := by omega
        have hwA : IntKind.u64.wrap (2 * (T : Int)) = ((2 * T : Nat) : Int) := by rw [IntWalk.u64_in _ (by omega)]; omega
        obtain ⟨T2, hT2e⟩ : ∃ T2, T2 = 2 * T := ⟨_, rfl⟩
        rw [← hT2e] at hst hw1 hw2 hw3 hwA
        have hwB : IntKind.u64.wrap ((T2 : Int) + 1) = 1 + (T2 : Int) := by rw [hw2]; omega
        have HwB := Lib.hid hwB
        have HwD : Hid (2 * (T : Int) = (T2 : Int)) := Lib.hid (by omega)
        have HwA := Lib.hid hw1
        clear hwB hwA hw3 hw2 hw1 hT2e
        have vh : ∀ u, Below wr.heap.size wr u → _ := fun u hu => vhas_any va vn vc V hvn hvs x s hsl u (hv.below (Below.then hb hu))
        obtain ⟨r, hr⟩ : ∃ r, r = hasV V x s := ⟨_, rfl⟩
        rw [← hr] at vh hst
        have Vh := Lib.hid vh
        have Hst := Lib.hid hst
        clear hc hx hdr hT hT2 hTe hst vh hr h63
        cases r with
        | true =>
          go_wp2_with fail
          refine wp_region_typed wr 7 (by kernel_rfl) (by kernel_rfl) (Below.refl _ _) ?_; simp only [List.take_succ_cons, List.take_zero, List.take_nil]
          iterate 5 (refine wpX_step (by rfl) (fun K hK => ?_); go_simp; first | (refine hK _ ?_; clear hK K) | (apply Exists.intro; refine ⟨fun _ => ?_, hK _ ?_⟩; fail; clear hK K))
          (refine wpX_step (by rfl) (fun K hK => ?_); rw [if_pos (by rfl)]; refine ⟨_, fun u => const_loadm _ (.tmp 4) (by rfl) _ _ (by rfl) aggHs hl32 (rangeAt.ext RH.out u), hK _ ?_⟩; clear hK K; simp only [Act.put, List.setIfInBounds_toArray, List.set_cons_zero, List.set_cons_succ])
          (refine wpX_step (by rfl) (fun K hK => ?_); go_simp; first | (refine hK _ ?_; clear hK K) | (apply Exists.intro; refine ⟨fun _ => ?_, hK _ ?_⟩; exact Vh.out _ (Subtype.property _); clear hK K))
          refine wpX_nil ?_
          intro u2 hb2
          have hz2 := hz.kept hb2
          have hbel2 := Below.then hb hb2
          change forallRel u2 [] _ _
          simp only [forallRel, List.drop_succ_cons, List.drop_zero, List.drop_nil]
          clear k1
          go_wp2_with fail
          go_roundw
          case rel => exact ⟨j, by omega, rfl, by rw [Hst.out]; first | rfl | (simp [HwA.out, HwB.out]), hz2, hbel2⟩
          case measure => simp [intOf]; try omega
        | false =>
          go_wp2_with fail
          refine wp_region_typed wr 7 (by kernel_rfl) (by kernel_rfl) (Below.refl _ _) ?_; simp only [List.take_succ_cons, List.take_zero, List.take_nil]
          iterate 5 (refine wpX_step (by rfl) (fun K hK => ?_); go_simp; first | (refine hK _ ?_; clear hK K) | (apply Exists.intro; refine ⟨fun _ => ?_, hK _ ?_⟩; fail; clear hK K))
          (refine wpX_step (by rfl) (fun K hK => ?_); rw [if_pos (by rfl)]; refine ⟨_, fun u => const_loadm _ (.tmp 4) (by rfl) _ _ (by rfl) aggHs hl32 (rangeAt.ext RH.out u), hK _ ?_⟩; clear hK K; simp only [Act.put, List.setIfInBounds_toArray, List.set_cons_zero, List.set_cons_succ])
          (refine wpX_step (by rfl) (fun K hK => ?_); go_simp; first | (refine hK _ ?_; clear hK K) | (apply Exists.intro; refine ⟨fun _ => ?_, hK _ ?_⟩; exact Vh.out _ (Subtype.property _); clear hK K))
          refine wpX_nil ?_
          intro u2 hb2
          have hz2 := hz.kept hb2
          have hbel2 := Below.then hb hb2
          change forallRel u2 [] _ _
          simp only [forallRel, List.drop_succ_cons, List.drop_zero, List.drop_nil]
          clear k1
          go_wp2_with fail
          go_roundw
          case rel => exact ⟨j, by omega, rfl, by rw [Hst.out]; first | rfl | (simp [HwA.out, HwB.out]), hz2, hbel2⟩
          case measure => simp [intOf]; try omega
      · obtain rfl : k = 0 := by omega
        simp only [List.drop_zero]
        go_wp2_with fail
        go_ret
        exact ⟨rfl, hb⟩
  · obtain hm := hlen.2 h64
    have h64i : (64 : Int) < (n : Int) := by omega
    clear hlen
    go_enter Tryd.func5, Tryd.ntmps5
    go_wp2_with fail
    try simp only [Act.put]
    go_loopw [7, 8] (fun mv ix wr => ∃ k : Nat, k ≤ L.length ∧ ix = .int .i64 ((k : Int) - 1) ∧ mv = .int .u64 (tal (fun x => hasV V x s) (L.drop k) : Nat) ∧ Blk 25 wr w.heap.size (by8 s) ∧ Below w.heap.size w wr) (fun _ ix _ => (intOf ix + 1).toNat)
    case atStart => exact ⟨L.length, Nat.le_refl _, by rw [hm]; rfl, by rw [List.drop_length]; rfl, hz0, hb0⟩
    case round =>
      clear hz0 hb0
      obtain ⟨k, hk, rfl, rfl, hz, hb⟩ := hrel
      by_cases hlt : 0 < k
      · obtain ⟨j, rfl⟩ : ∃ j, k = j + 1 := ⟨k - 1, by omega⟩
        have hji : (((j + 1 : Nat) : Int) - 1) = (j : Int) := by omega
        rw [hji]
        have hj0 : (0 : Int) ≤ (j : Int) := by omega
        obtain ⟨x, hx, hdr, hjn⟩ := Hget.out j (by omega)
        obtain ⟨b2, off2, rfl, hc⟩ := Hcell.out j x hx wr hb
        have hjn2 : (j : Int) < (n : Int) := by omega
        have k1 := fun u : Ext wr => u.cell hc
        have RH := Lib.hid (Blk.all0 hz)
        have hT := tal_lt (fun x => hasV V x s) (L.drop (j + 1))
        rw [List.length_drop] at hT
        obtain ⟨T, hTe⟩ : ∃ T, T = tal (fun x => hasV V x s) (L.drop (j + 1)) := ⟨_, rfl⟩
        have hst : tal (fun x => hasV V x s) (L.drop j) = (if hasV V x s = true then 1 else 0) + 2 * T := by rw [hdr, tal, hTe]
        rw [← hTe] at hT ⊢
        have hT2 : T < 2 ^ 63 := Nat.lt_of_lt_of_le hT (Nat.pow_le_pow_right (by omega) (by omega))
        have h63 : (2 : Nat) ^ 63 = 9223372036854775808 := by decide
        have hw1 : IntKind.u64.wrap ((T : Int) * 2) = ((2 * T : Nat) : Int) := by rw [IntWalk.u64_in _ (by omega)]; omega
        have hw2 : IntKind.u64.wrap (((2 * T : Nat) : Int) + 1) = ((1 + 2 * T : Nat) : Int) := by rw [IntWalk.u64_in _ (by omega)]; omega
        have hw3 : (T : Int) * 2 = ((2 * T : Nat) : Int) := by omega
        have hwA : IntKind.u64.wrap (2 * (T : Int)) = ((2 * T : Nat) : Int) := by rw [IntWalk.u64_in _ (by omega)]; omega
        obtain ⟨T2, hT2e⟩ : ∃ T2, T2 = 2 * T := ⟨_, rfl⟩
        rw [← hT2e] at hst hw1 hw2 hw3 hwA
        have hwB : IntKind.u64.wrap ((T2 : Int) + 1) = 1 + (T2 : Int) := by rw [hw2]; omega
        have HwB := Lib.hid hwB
        have HwD : Hid (2 * (T : Int) = (T2 : Int)) := Lib.hid (by omega)
        have HwA := Lib.hid hw1
        clear hwB hwA hw3 hw2 hw1 hT2e
        have vh : ∀ u, Below wr.heap.size wr u → _ := fun u hu => vhas_any va vn vc V hvn hvs x s hsl u (hv.below (Below.then hb hu))
        obtain ⟨r, hr⟩ : ∃ r, r = hasV V x s := ⟨_, rfl⟩
        rw [← hr] at vh hst
        have Vh := Lib.hid vh
        have Hst := Lib.hid hst
        clear hc hx hdr hT hT2 hTe hst vh hr h63
        cases r with
        | true =>
          go_wp2_with fail
          refine wp_region_typed wr 7 (by kernel_rfl) (by kernel_rfl) (Below.refl _ _) ?_; simp only [List.take_succ_cons, List.take_zero, List.take_nil]
          iterate 5 (refine wpX_step (by rfl) (fun K hK => ?_); go_simp; first | (refine hK _ ?_; clear hK K) | (apply Exists.intro; refine ⟨fun _ => ?_, hK _ ?_⟩; fail; clear hK K))
          (refine wpX_step (by rfl) (fun K hK => ?_); rw [if_pos (by rfl)]; refine ⟨_, fun u => const_loadm _ (.tmp 4) (by rfl) _ _ (by rfl) aggHs hl32 (rangeAt.ext RH.out u), hK _ ?_⟩; clear hK K; simp only [Act.put, List.setIfInBounds_toArray, List.set_cons_zero, List.set_cons_succ])
          (refine wpX_step (by rfl) (fun K hK => ?_); go_simp; first | (refine hK _ ?_; clear hK K) | (apply Exists.intro; refine ⟨fun _ => ?_, hK _ ?_⟩; exact Vh.out _ (Subtype.property _); clear hK K))
          refine wpX_nil ?_
          intro u2 hb2
          have hz2 := hz.kept hb2
          have hbel2 := Below.then hb hb2
          change forallRel u2 [] _ _
          simp only [forallRel, List.drop_succ_cons, List.drop_zero, List.drop_nil]
          clear k1
          go_wp2_with fail
          go_roundw
          case rel => exact ⟨j, by omega, rfl, by rw [Hst.out]; first | rfl | (simp [HwA.out, HwB.out]), hz2, hbel2⟩
          case measure => simp [intOf]; try omega
        | false =>
          go_wp2_with fail
          refine wp_region_typed wr 7 (by kernel_rfl) (by kernel_rfl) (Below.refl _ _) ?_; simp only [List.take_succ_cons, List.take_zero, List.take_nil]
          iterate 5 (refine wpX_step (by rfl) (fun K hK => ?_); go_simp; first | (refine hK _ ?_; clear hK K) | (apply Exists.intro; refine ⟨fun _ => ?_, hK _ ?_⟩; fail; clear hK K))
          (refine wpX_step (by rfl) (fun K hK => ?_); rw [if_pos (by rfl)]; refine ⟨_, fun u => const_loadm _ (.tmp 4) (by rfl) _ _ (by rfl) aggHs hl32 (rangeAt.ext RH.out u), hK _ ?_⟩; clear hK K; simp only [Act.put, List.setIfInBounds_toArray, List.set_cons_zero, List.set_cons_succ])
          (refine wpX_step (by rfl) (fun K hK => ?_); go_simp; first | (refine hK _ ?_; clear hK K) | (apply Exists.intro; refine ⟨fun _ => ?_, hK _ ?_⟩; exact Vh.out _ (Subtype.property _); clear hK K))
          refine wpX_nil ?_
          intro u2 hb2
          have hz2 := hz.kept hb2
          have hbel2 := Below.then hb hb2
          change forallRel u2 [] _ _
          simp only [forallRel, List.drop_succ_cons, List.drop_zero, List.drop_nil]
          clear k1
          go_wp2_with fail
          go_roundw
          case rel => exact ⟨j, by omega, rfl, by rw [Hst.out]; first | rfl | (simp [HwA.out, HwB.out]), hz2, hbel2⟩
          case measure => simp [intOf]; try omega
      · obtain rfl : k = 0 := by omega
        simp only [List.drop_zero]
        go_wp2_with fail
        go_ret
        exact ⟨rfl, hb⟩
end Go.Proofs.YtffkjjpjfehcnaaDoor
