/- seats.Voted; the reference's VVoted. -/
import Derived.Test.YtffkjjpjfehcnaaDoorVote6
import Derived.Test.YtffkjjpjfehcnaaDoorSeat1
set_option linter.unusedSimpArgs false
set_option linter.unusedVariables false
namespace Go.Proofs.YtffkjjpjfehcnaaDoor
open Go.RowKit
theorem bits_andNot (a b : Nat) (ha : a < 18446744073709551616) (hb : b < 18446744073709551616) : bits .andNot .u64 (a : Int) (b : Int) = ((a &&& (18446744073709551615 - b) : Nat) : Int) := by
  have h1 : (BitVec.ofInt 64 (a : Int)).toNat = a := by rw [BitVec.ofInt_natCast, BitVec.toNat_ofNat]; exact Nat.mod_eq_of_lt (by omega)
  have h2 : (BitVec.ofInt 64 (b : Int)).toNat = b := by rw [BitVec.ofInt_natCast, BitVec.toNat_ofNat]; exact Nat.mod_eq_of_lt (by omega)
  show IntKind.u64.wrap ((BitVec.ofInt 64 (a : Int) &&& ~~~ BitVec.ofInt 64 (b : Int)).toNat : Int) = _
  have h3 : (BitVec.ofInt 64 (a : Int) &&& ~~~ BitVec.ofInt 64 (b : Int)).toNat = a &&& (18446744073709551615 - b) := by
    rw [BitVec.toNat_and, BitVec.toNat_not, h1, h2]
  rw [h3]
  have : a &&& (18446744073709551615 - b) ≤ a := Nat.and_le_left
  exact IntWalk.u64_in _ (by omega)
set_option maxHeartbeats 2000000 in
set_option maxRecDepth 100000 in
theorem voted_any (a : Option Addr) (n c : Nat) (l : List Nat) (hn : l.length = n) (hs : n ≤ 140737488355328) (hl : ∀ y ∈ l, y < 18446744073709551616) (M : Nat) (hM : M < 18446744073709551616) (s : List UInt8) (hsl : s.length = 32) (va : Option Addr) (vn vc : Nat) (V : List Vt) (hvn : V.length = vn) (hvs : vn ≤ 140737488355328) (hV : ∀ v ∈ V, v.Ok)
    (w : World) (h : RowOf u64c 1 w (.slice a n c) l) (hv : RowOf vtc 33 w (.slice va vn vc) V) :
    Calls Tryd.prog 6 #[.slice a n c, .int .u64 (M : Int), .agg (by8 s).toArray, .slice va vn vc] w fun e w' => e = .returned (.bool (vtd M (fun x => hasV V x s) l)) ∧ Below w.heap.size w w' := by
  have hz0 : Blk 25 (w.alloc (.cells (by8 s).toArray 25)) w.heap.size (by8 s) := Blk.new w _ _
  have hb0 : Below w.heap.size w (w.alloc (.cells (by8 s).toArray 25)) := (Below.refl _ _).alloc (Nat.le_refl _) _
  have hl32 : (by8 s).length = 32 := by rw [by8_len, hsl]
  have ct := tally_any a n c l hn hs hl s hsl va vn vc V hvn hvs hV _ (h.below hb0) (hv.below hb0)
  have hvt := vtd_iff M hM (fun x => hasV V x s) l
  have hT : tal (fun x => hasV V x s) (l.take 64) < 18446744073709551616 := by
    have h1 := tal_lt (fun x => hasV V x s) (l.take 64)
    have h2 : 2 ^ (l.take 64).length ≤ 2 ^ 64 := Nat.pow_le_pow_right (by omega) (by rw [List.length_take]; omega)
    have h3 : (2 : Nat) ^ 64 = 18446744073709551616 := by decide
    omega
  obtain ⟨T, hTe⟩ : ∃ T, T = tal (fun x => hasV V x s) (l.take 64) := ⟨_, rfl⟩
  rw [← hTe] at ct hvt hT
  have han := bits_andNot M T hM hT
  obtain ⟨Q, hQ⟩ : ∃ Q, Q = M &&& (18446744073709551615 - T) := ⟨_, rfl⟩
  rw [← hQ] at han hvt
  obtain ⟨R, hR⟩ : ∃ R, R = vtd M (fun x => hasV V x s) l := ⟨_, rfl⟩
  rw [← hR] at hvt ⊢
  have hq : ((Q : Int) == 0) = R := by
    rw [Bool.eq_iff_iff, ← hvt]; simp only [beq_iff_eq]; omega
  have Ct := Lib.hid ct
  clear hn hl hQ hR hTe ct hvt h hv hV
  go_enter Tryd.func6, Tryd.ntmps6
  go_wp2_with (first
    | (refine wpList_loadA (o := ⟨some 11, _, _, _, _, _⟩) (by rfl) 25 (.tmp 6) (by rfl) w.heap.size (by rfl) aggHs hz0 hl32 ?_)
    | (go_at_call 4; refine Ct.out.mono ?_; rintro e w1 ⟨rfl, b1⟩; have hb1 := Below.then hb0 b1))
  go_ret
  exact ⟨rfl, hb1⟩
/-- one place of a mask -/
def vtb (M : Nat) (f : Nat → Bool) (l : List Nat) (i : Nat) : Bool := !(decide (M / 2 ^ i % 2 = 1)) || (match l[i]? with | some x => f x | none => false)
theorem vtd_all (M : Nat) (f : Nat → Bool) (l : List Nat) : vtd M f l = (List.range 64).all (vtb M f l) := rfl
set_option maxHeartbeats 2000000 in
set_option maxRecDepth 100000 in
theorem vvoted_any (a : Option Addr) (n c : Nat) (l : List Nat) (hn : l.length = n) (hs : n ≤ 140737488355328) (M : Nat) (hM : M < 18446744073709551616) (s : List UInt8) (hsl : s.length = 32) (va : Option Addr) (vn vc : Nat) (V : List Vt) (hvn : V.length = vn) (hvs : vn ≤ 140737488355328)
    (w : World) (h : RowOf u64c 1 w (.slice a n c) l) (hv : RowOf vtc 33 w (.slice va vn vc) V) :
    Calls Tryd.prog 7 #[.slice a n c, .int .u64 (M : Int), .agg (by8 s).toArray, .slice va vn vc] w fun e w' => e = .returned (.bool (vtd M (fun x => hasV V x s) l)) ∧ Below w.heap.size w w' := by
  have Hn := Lib.hid hn
  have hz0 : Blk 25 (w.alloc (.cells (by8 s).toArray 25)) w.heap.size (by8 s) := Blk.new w _ _
  have hb0 : Below w.heap.size w (w.alloc (.cells (by8 s).toArray 25)) := (Below.refl _ _).alloc (Nat.le_refl _) _
  have hl32 : (by8 s).length = 32 := by rw [by8_len, hsl]
  clear hn
  go_enter Tryd.func7, Tryd.ntmps7
  go_wp2_with fail
  try simp only [Act.put]
  go_loopw [10] (fun ix wr => ∃ i : Nat, i ≤ 64 ∧ ix = .int .i64 (i : Int) ∧ Blk 25 wr w.heap.size (by8 s) ∧ Below w.heap.size w wr ∧ Hid ((List.range i).all (vtb M (fun x => hasV V x s) l) = true)) (fun ix _ => 64 - (intOf ix).toNat)
  case atStart => exact ⟨0, by omega, rfl, hz0, hb0, Lib.hid rfl⟩
  case round =>
    clear hz0 hb0
    obtain ⟨i, hi, rfl, hz, hb, Hh⟩ := hrel
    by_cases hlt : i < 64
    · have hki : (i : Int) < 64 := by omega
      have hvn1 := fun u => (vnames_any M i hM (by omega) u).mono (fun e w' h => (⟨h.1, by rw [← h.2]; exact Below.refl _ _⟩ : e = .returned (.bool (decide (M / 2 ^ i % 2 = 1))) ∧ Below u.heap.size u w'))
      have hstep : vtb M (fun x => hasV V x s) l i = true → (List.range (i + 1)).all (vtb M (fun x => hasV V x s) l) = true := fun hg => by
        rw [List.range_succ, List.all_append, Hh.out]; simp [hg]
      have hbad : vtb M (fun x => hasV V x s) l i = false → vtd M (fun x => hasV V x s) l = false := fun hg => by
        rw [vtd_all, List.all_eq_false]
        exact ⟨i, List.mem_range.2 hlt, by rw [hg]; simp⟩
      have Hstep := Lib.hid hstep
      have Hbad := Lib.hid hbad
      have RH := Lib.hid (Blk.all0 hz)
      clear hstep hbad
      by_cases hbit : M / 2 ^ i % 2 = 1
      · rw [decide_eq_true hbit] at hvn1
        have Vn := Lib.hid hvn1
        clear hvn1
        by_cases hin : i < n
        · have hii : ¬ ((n : Int) ≤ (i : Int)) := by omega
          have hiN : (i : Int) < (n : Int) := by omega
          have hdec : decide (n ≤ i) = false := decide_eq_false (by omega)
          have hl1 : i < l.length := by rw [Hn.out]; exact hin
          obtain ⟨b2, off2, rfl, hc⟩ := u64_at (h.below hb) i hl1
          have k1 := fun u : Ext wr => u.cell hc
          obtain ⟨x, hx⟩ : ∃ x, x = gv l i := ⟨_, rfl⟩
          rw [← hx] at k1
          have hget : l[i]? = some x := by rw [hx]; unfold gv; rw [List.getElem?_eq_getElem hl1]; rfl
          have hval : vtb M (fun x => hasV V x s) l i = hasV V x s := by unfold vtb; rw [hget]; simp [hbit]
          have vh : ∀ u, Below wr.heap.size wr u → _ := fun u hu => vhas_any va vn vc V hvn hvs x s hsl u (hv.below (Below.then hb hu))
          obtain ⟨r, hr⟩ : ∃ r, r = hasV V x s := ⟨_, rfl⟩
          rw [← hr] at hval vh
          have Vh := Lib.hid vh
          have Hval := Lib.hid hval
          clear hl1 hc hx hget hval hr vh
          cases r with
          | true =>
            go_wp2_with fail
            refine wp_region_typed wr 19 (by kernel_rfl) (by kernel_rfl) (Below.refl _ _) ?_; simp only [List.take_succ_cons, List.take_zero, List.take_nil]
            iterate 2 (refine wpX_step (by rfl) (fun K hK => ?_); go_simp; first | (refine hK _ ?_; clear hK K) | (apply Exists.intro; refine ⟨fun _ => ?_, hK _ ?_⟩; fail; clear hK K))
            (refine wpX_step (by rfl) (fun K hK => ?_); go_simp; first | (refine hK _ ?_; clear hK K) | (apply Exists.intro; refine ⟨fun _ => ?_, hK _ ?_⟩; exact Vn.out _; clear hK K))
            iterate 11 (refine wpX_step (by rfl) (fun K hK => ?_); go_simp; first | (refine hK _ ?_; clear hK K) | (apply Exists.intro; refine ⟨fun _ => ?_, hK _ ?_⟩; fail; clear hK K))
            (refine wpX_step (by rfl) (fun K hK => ?_); rw [if_pos (by rfl)]; refine ⟨_, fun u => const_loadm _ (.tmp 6) (by rfl) _ _ (by rfl) aggHs hl32 (rangeAt.ext RH.out u), hK _ ?_⟩; clear hK K; simp only [Act.put, List.setIfInBounds_toArray, List.set_cons_zero, List.set_cons_succ])
            (refine wpX_step (by rfl) (fun K hK => ?_); go_simp; first | (refine hK _ ?_; clear hK K) | (apply Exists.intro; refine ⟨fun _ => ?_, hK _ ?_⟩; exact Vh.out _ (Subtype.property _); clear hK K))
            iterate 3 (refine wpX_step (by rfl) (fun K hK => ?_); go_simp; first | (refine hK _ ?_; clear hK K) | (apply Exists.intro; refine ⟨fun _ => ?_, hK _ ?_⟩; fail; clear hK K))
            refine wpX_nil ?_
            intro u2 hb2
            have hz2 := hz.kept hb2
            have hbel2 := Below.then hb hb2
            change forallRel u2 [] _ _
            simp only [forallRel, List.drop_succ_cons, List.drop_zero, List.drop_nil]
            clear k1
            go_wp2_with fail
            go_roundw
            case rel => exact ⟨i + 1, by omega, by go_num, hz2, hbel2, Lib.hid (Hstep.out Hval.out)⟩
            case measure => simp [intOf]; omega
          | false =>
            go_wp2_with fail
            refine wp_region_typed wr 19 (by kernel_rfl) (by kernel_rfl) (Below.refl _ _) ?_; simp only [List.take_succ_cons, List.take_zero, List.take_nil]
            iterate 2 (refine wpX_step (by rfl) (fun K hK => ?_); go_simp; first | (refine hK _ ?_; clear hK K) | (apply Exists.intro; refine ⟨fun _ => ?_, hK _ ?_⟩; fail; clear hK K))
            (refine wpX_step (by rfl) (fun K hK => ?_); go_simp; first | (refine hK _ ?_; clear hK K) | (apply Exists.intro; refine ⟨fun _ => ?_, hK _ ?_⟩; exact Vn.out _; clear hK K))
            iterate 11 (refine wpX_step (by rfl) (fun K hK => ?_); go_simp; first | (refine hK _ ?_; clear hK K) | (apply Exists.intro; refine ⟨fun _ => ?_, hK _ ?_⟩; fail; clear hK K))
            (refine wpX_step (by rfl) (fun K hK => ?_); rw [if_pos (by rfl)]; refine ⟨_, fun u => const_loadm _ (.tmp 6) (by rfl) _ _ (by rfl) aggHs hl32 (rangeAt.ext RH.out u), hK _ ?_⟩; clear hK K; simp only [Act.put, List.setIfInBounds_toArray, List.set_cons_zero, List.set_cons_succ])
            (refine wpX_step (by rfl) (fun K hK => ?_); go_simp; first | (refine hK _ ?_; clear hK K) | (apply Exists.intro; refine ⟨fun _ => ?_, hK _ ?_⟩; exact Vh.out _ (Subtype.property _); clear hK K))
            iterate 3 (refine wpX_step (by rfl) (fun K hK => ?_); go_simp; first | (refine hK _ ?_; clear hK K) | (apply Exists.intro; refine ⟨fun _ => ?_, hK _ ?_⟩; fail; clear hK K))
            refine wpX_nil ?_
            intro u2 hb2
            have hbel2 := Below.then hb hb2
            change forallRel u2 [] _ _
            simp only [forallRel, List.drop_succ_cons, List.drop_zero, List.drop_nil]
            clear k1
            go_wp2_with fail
            go_ret
            exact ⟨by rw [Hbad.out Hval.out]; rfl, hbel2⟩
        · have hii : (n : Int) ≤ (i : Int) := by omega
          have hdec : decide (n ≤ i) = true := decide_eq_true (by omega)
          have hget : l[i]? = none := List.getElem?_eq_none (by rw [Hn.out]; omega)
          have hval : vtb M (fun x => hasV V x s) l i = false := by unfold vtb; rw [hget]; simp [hbit]
          have Hval := Lib.hid hval
          clear hget hval
          go_wp2_with fail
          refine wp_region_typed wr 19 (by kernel_rfl) (by kernel_rfl) (Below.refl _ _) ?_; simp only [List.take_succ_cons, List.take_zero, List.take_nil]
          iterate 2 (refine wpX_step (by rfl) (fun K hK => ?_); go_simp; first | (refine hK _ ?_; clear hK K) | (apply Exists.intro; refine ⟨fun _ => ?_, hK _ ?_⟩; fail; clear hK K))
          (refine wpX_step (by rfl) (fun K hK => ?_); go_simp; first | (refine hK _ ?_; clear hK K) | (apply Exists.intro; refine ⟨fun _ => ?_, hK _ ?_⟩; exact Vn.out _; clear hK K))
          iterate 16 (refine wpX_step (by rfl) (fun K hK => ?_); go_simp; first | (refine hK _ ?_; clear hK K) | (apply Exists.intro; refine ⟨fun _ => ?_, hK _ ?_⟩; fail; clear hK K))
          refine wpX_nil ?_
          intro u2 hb2
          have hbel2 := Below.then hb hb2
          change forallRel u2 [] _ _
          simp only [forallRel, List.drop_succ_cons, List.drop_zero, List.drop_nil]
          go_wp2_with fail
          go_ret
          exact ⟨by rw [Hbad.out Hval.out]; rfl, hbel2⟩
      · rw [decide_eq_false hbit] at hvn1
        have Vn := Lib.hid hvn1
        have hval : vtb M (fun x => hasV V x s) l i = true := by unfold vtb; simp [hbit]
        have Hval := Lib.hid hval
        clear hvn1 hval
        go_wp2_with fail
        refine wp_region_typed wr 19 (by kernel_rfl) (by kernel_rfl) (Below.refl _ _) ?_; simp only [List.take_succ_cons, List.take_zero, List.take_nil]
        iterate 2 (refine wpX_step (by rfl) (fun K hK => ?_); go_simp; first | (refine hK _ ?_; clear hK K) | (apply Exists.intro; refine ⟨fun _ => ?_, hK _ ?_⟩; fail; clear hK K))
        (refine wpX_step (by rfl) (fun K hK => ?_); go_simp; first | (refine hK _ ?_; clear hK K) | (apply Exists.intro; refine ⟨fun _ => ?_, hK _ ?_⟩; exact Vn.out _; clear hK K))
        iterate 16 (refine wpX_step (by rfl) (fun K hK => ?_); go_simp; first | (refine hK _ ?_; clear hK K) | (apply Exists.intro; refine ⟨fun _ => ?_, hK _ ?_⟩; fail; clear hK K))
        refine wpX_nil ?_
        intro u2 hb2
        have hz2 := hz.kept hb2
        have hbel2 := Below.then hb hb2
        change forallRel u2 [] _ _
        simp only [forallRel, List.drop_succ_cons, List.drop_zero, List.drop_nil]
        go_wp2_with fail
        go_roundw
        case rel => exact ⟨i + 1, by omega, by go_num, hz2, hbel2, Lib.hid (Hstep.out Hval.out)⟩
        case measure => simp [intOf]; omega
    · obtain rfl : i = 64 := by omega
      have Hfin : Hid (vtd M (fun x => hasV V x s) l = true) := Lib.hid Hh.out
      go_wp2_with fail
      go_ret
      exact ⟨by rw [Hfin.out]; rfl, hb⟩
end Go.Proofs.YtffkjjpjfehcnaaDoor
