/- nib.wrong, Join and the reference's NJoin. -/
import Derived.Test.YtfedjbodcebdnaaNib2
import Derived.StillTailTactics
import Derived.Test.YtfedjbodcebdnaaTyped
set_option linter.unusedSimpArgs false
set_option linter.unusedVariables false
namespace Go.Proofs.Ytfedjbodcebdnaa
open Go.RowKit
theorem wrong_false (l : List UInt8) (k : Nat) (h : ∀ j (hj : j < l.length), j < k → (l[j]).toNat ≤ 15) (hk : l.length ≤ k) : wrongB l = false := by
  unfold wrongB
  rw [List.any_eq_false]
  intro x hx
  obtain ⟨j, hj, rfl⟩ := List.getElem_of_mem hx
  have := h j hj (by omega)
  simp; omega
theorem wrong_true (l : List UInt8) (k : Nat) (hk : k < l.length) (hx : 15 < (l[k]).toNat) : wrongB l = true := by
  unfold wrongB
  rw [List.any_eq_true]
  exact ⟨l[k], List.getElem_mem hk, by simpa using hx⟩
theorem wrong_le (l : List UInt8) (h : wrongB l = false) (k : Nat) (hk : k < l.length) : (l[k]).toNat ≤ 15 := by
  unfold wrongB at h
  rw [List.any_eq_false] at h
  have := h l[k] (List.getElem_mem hk)
  simpa using this
set_option maxHeartbeats 400000 in
set_option maxRecDepth 100000 in
theorem wrong_any (a : Option Addr) (c : Nat) (l : List UInt8) (w : World) (h : Bytes w (.slice a l.length c) l) :
    Calls Try.prog 118 #[.slice a l.length c] w fun e w' => e = .returned (.bool (wrongB l)) ∧ w = w' := by
  have hl := h.small
  unfold maxLen at hl
  go_enter Try.func118, Try.ntmps118
  go_wp2
  go_loop [7] (fun i => ∃ k : Nat, k ≤ l.length ∧ i = .int .i64 k ∧ ∀ j (hj : j < l.length), j < k → (l[j]).toNat ≤ 15) (fun i => l.length - (intOf i).toNat)
  case atStart => exact ⟨0, Nat.zero_le _, rfl, fun j _ hj => by omega⟩
  case round =>
    obtain ⟨k, hk, rfl, hall⟩ := hrel
    have Hall := Lib.hid hall
    clear hall
    by_cases hlt : k < l.length
    · obtain ⟨b, off, rfl, hc⟩ := h.at k hlt
      obtain ⟨x, hx⟩ : ∃ x, x = l[k] := ⟨_, rfl⟩
      rw [← hx] at hc
      have Hx := Lib.hid hx
      clear hx
      have hxb := u8_lt x
      by_cases h15 : 15 < x.toNat
      · have ht : (15 : Int) < (x.toNat : Int) := by omega
        have hfin := Lib.hid (wrong_true l k hlt (by rw [← Hx.out]; exact h15))
        go_wp2
        go_ret
        exact ⟨ret_bool hfin.out.symm, rfl⟩
      · have ht : (x.toNat : Int) ≤ 15 := by omega
        go_wp2
        go_round
        case rel => exact ⟨k + 1, by omega, by go_num, fun j hj hjk => by
          by_cases hjk' : j < k
          · exact Hall.out j hj hjk'
          · obtain rfl : j = k := by omega
            rw [← Hx.out]; omega⟩
        case measure => simp [intOf]; try omega
    · have hfin := Lib.hid (wrong_false l k Hall.out (by omega))
      go_wp2
      go_ret
      exact ⟨ret_bool hfin.out.symm, rfl⟩
def joinE (l : List UInt8) : Int := if joinOk l then 0 else 1
def joinR (l : List UInt8) : List UInt8 := if joinOk l then joinL l else []
theorem join_yes {l : List UInt8} (h : joinOk l = true) : joinE l = 0 ∧ joinR l = joinL l := by unfold joinE joinR; simp [h]
theorem join_no {l : List UInt8} (h : joinOk l = false) : joinE l = 1 ∧ joinR l = [] := by unfold joinE joinR; simp [h]
theorem join_take (l : List UInt8) : ∀ (i : Nat) (h : 2 * i + 1 < l.length), joinL (l.take (2 * i + 2)) = joinL (l.take (2 * i)) ++ [l[2 * i] * 16 + l[2 * i + 1]] := by
  induction l using joinL.induct with
  | case1 x y l ih =>
    intro i h
    cases i with
    | zero => simp [joinL]
    | succ i =>
      have e1 : 2 * (i + 1) + 2 = (2 * i + 2) + 2 := by omega
      have e2 : 2 * (i + 1) = 2 * i + 2 := by omega
      simp only [e1, e2, List.take_succ_cons, joinL, List.cons_append, List.getElem_cons_succ]
      rw [ih i (by simp at h; omega)]
  | case2 l hl =>
    intro i h
    exfalso
    match l, hl with
    | [], _ => simp at h
    | [x], _ => simp at h
    | x :: y :: l, hl => exact hl x y l rfl
theorem joinL_le (l : List UInt8) : 2 * (joinL l).length ≤ l.length := by
  induction l using joinL.induct with
  | case1 x y l ih => simp [joinL]; omega
  | case2 l hl =>
    match l, hl with
    | [], _ => simp [joinL]
    | [x], _ => simp [joinL]
    | x :: y :: l, hl => exact (hl x y l rfl).elim
theorem join_bits (x y : UInt8) (hx : x.toNat ≤ 15) (hy : y.toNat ≤ 15) : bits .or .u8 ((x.toNat : Int) * 16) (y.toNat : Int) = ((x * 16 + y).toNat : Int) := by
  have h := u8_or_nat (x.toNat * 16) y.toNat (by omega) (by omega)
  rw [Int.natCast_mul] at h
  rw [show ((16 : Nat) : Int) = 16 from rfl] at h
  rw [h, nat_join 4 _ _ (by omega) (by omega)]
  have : (x * 16 + y).toNat = x.toNat * 16 + y.toNat := by
    rw [UInt8.toNat_add, UInt8.toNat_mul, show (16 : UInt8).toNat = 16 from rfl]; omega
  rw [this]
set_option maxHeartbeats 400000 in
set_option maxRecDepth 100000 in
theorem join_any (a : Option Addr) (c : Nat) (l : List UInt8) (w : World) (h : Bytes w (.slice a l.length c) l) (hl : l.length ≤ 140737488355328) :
    Calls Try.prog 119 #[.slice a l.length c] w fun e w' => ∃ v, e = .returned (.tuple #[v, .int .i64 (joinE l)]) ∧ OwnOf b8 1 5 w' w.heap.size v (joinR l) ∧ Below w.heap.size w w' := by
  obtain ⟨n, hn⟩ : ∃ n, n = l.length := ⟨_, rfl⟩
  rw [← hn] at h hl ⊢
  have Hn := Lib.hid hn
  have hwr := fun w1 (b1 : Below w.heap.size w w1) => wrong_any a c l w1 (by have := h.below b1; rw [hn] at this; exact this)
  rw [← hn] at hwr
  have Hwr := Lib.hid hwr
  clear hwr hn
  by_cases hodd : n % 2 = 1
  · have hok : joinOk l = false := by unfold joinOk; rw [← Hn.out]; simp [hodd]
    rw [(join_no hok).1, (join_no hok).2]
    have ht : ((n : Int) % 2 == 1) = true := by rw [beq_iff_eq]; omega
    clear hok
    go_enter Try.func119, Try.ntmps119
    go_wp2_with fail
    go_ret2
    exact ⟨_, rfl, OwnOf.nil _ _ _ _ _, Below.refl _ _⟩
  · have ht : ((n : Int) % 2 == 1) = false := by rw [beq_eq_false_iff_ne]; omega
    by_cases hwb : wrongB l = true
    · have hok : joinOk l = false := by unfold joinOk; rw [hwb]; simp
      rw [(join_no hok).1, (join_no hok).2]
      clear hok
      go_enter Try.func119, Try.ntmps119
      go_wp2_with (go_at_call 118; refine (Hwr.out _ (Below.refl _ _)).mono ?_; rintro e w1 ⟨rfl, rfl⟩)
      go_ret2
      exact ⟨_, rfl, OwnOf.nil _ _ _ _ _, Below.refl _ _⟩
    · have hwf : wrongB l = false := by simpa using hwb
      have hok : joinOk l = true := by unfold joinOk; rw [hwf, ← Hn.out]; simp; omega
      rw [(join_yes hok).1, (join_yes hok).2]
      have hle := Lib.hid (wrong_le l hwf)
      clear hok hwb
      go_enter Try.func119, Try.ntmps119
      go_wp2_with (go_at_call 118; refine (Hwr.out _ (Below.refl _ _)).mono ?_; rintro e w1 ⟨rfl, rfl⟩)
      go_loopw [0, 4] (fun p v wr => ∃ i m a' c', 2 * i + m = n ∧ p = .slice a' m c' ∧ Bytes w (.slice a' m c') (l.drop (2 * i)) ∧ OwnOf b8 1 5 wr w.heap.size v (joinL (l.take (2 * i))) ∧ Below w.heap.size w wr ∧ w.heap.size ≤ wr.heap.size) (fun p _ _ => lenV p)
      case atStart => exact ⟨0, n, a, c, by omega, rfl, by simpa using h, OwnOf.nil _ _ _ _ _, Below.refl _ _, Nat.le_refl _⟩
      case round =>
        obtain ⟨i, m, a', c', him, rfl, hp, hown, hbel, hB⟩ := hrel
        have Him := Lib.hid him
        by_cases hm : m = 0
        · have hfin : l.take (2 * i) = l := List.take_of_length_le (by have := Hn.out; omega)
          rw [hfin] at hown
          have ht2 : decide ((0 : Int) < (m : Int)) = false := by rw [decide_eq_false_iff_not]; omega
          subst hm
          clear him hfin
          go_wp2
          go_ret2
          exact ⟨_, rfl, hown, hbel⟩
        · have hm2 : 2 ≤ m := by omega
          have hlen : (l.drop (2 * i)).length = m := by have := Hn.out; simp; omega
          obtain ⟨b, off, rfl, hbl, hc0⟩ := hp.later hbel 0 (by omega)
          obtain ⟨_, _, e, _, hc1⟩ := hp.later hbel 1 (by omega)
          simp only [Option.some.injEq, Addr.mk.injEq, and_true] at e
          obtain ⟨rfl, rfl⟩ := e
          obtain ⟨x, hx⟩ : ∃ x, x = (l.drop (2 * i))[0] := ⟨_, rfl⟩
          obtain ⟨y, hy⟩ : ∃ y, y = (l.drop (2 * i))[1] := ⟨_, rfl⟩
          rw [← hx, Nat.add_zero] at hc0
          rw [← hy] at hc1
          have hx2 : x = l[2 * i]'(by have := Hn.out; omega) := by rw [hx]; simp
          have hy2 : y = l[2 * i + 1]'(by have := Hn.out; omega) := by rw [hy]; simp
          have hxl : x.toNat ≤ 15 := by rw [hx2]; exact hle.out _ _
          have hyl : y.toNat ≤ 15 := by rw [hy2]; exact hle.out _ _
          have hxi : (x.toNat : Int) ≤ 15 ∧ 0 ≤ (x.toNat : Int) := by omega
          have hyi : (y.toNat : Int) ≤ 15 ∧ 0 ≤ (y.toNat : Int) := by omega
          have hj := join_take l i (by have := Hn.out; omega)
          rw [← hx2, ← hy2] at hj
          have Hj := Lib.hid hj
          obtain ⟨a2, c2, hs2, hr2⟩ := RowOf.from elU8 hp 2 hm2 2 rfl
          rw [List.drop_drop] at hr2
          have hjb := join_bits x y hxl hyl
          have Hcell : Hid ([Value.int .u8 (bits .or .u8 ((x.toNat : Int) * 16) (y.toNat : Int))] = b8 (x * 16 + y)) := by rw [hjb]; exact Lib.hid rfl
          have hone := fun w1 : World => (RowOf.one b8 1 w1 (x * 16 + y) #[.int .u8 (bits .or .u8 ((x.toNat : Int) * 16) (y.toNat : Int))] 5 Hcell.out rfl)
          have hwx : IntKind.u8.wrap ((x.toNat : Int) * 16) = (x.toNat : Int) * 16 := by rw [IntKind.wrap_u8']; omega
          have ht2 : (0 : Int) < (m : Int) := by omega
          have ht3 : (1 : Int) < (m : Int) := by omega
          have ht4 : 0 < m := by omega
          have ht5 : 1 < m := by omega
          have hjl : (joinL (l.take (2 * i))).length + 1 ≤ n := by
            have := joinL_le (l.take (2 * i)); rw [List.length_take] at this; omega
          have hbytes : ((joinL (l.take (2 * i))).length + [x * 16 + y].length) * 1 ≤ 140737488355328 := by simp; omega
          have h63 : (joinL (l.take (2 * i))).length + [x * 16 + y].length ≤ maxLen := by simp [maxLen]; omega
          have Hbytes := Lib.hid hbytes
          have H63 := Lib.hid h63
          clear hbytes h63
          clear hj hx hy hx2 hy2 him hlen hxl hyl hjb
          go_wp2
          have k0 := fun u : Ext wr => u.cell hc0
          have k1 := fun u : Ext wr => u.cell hc1
          refine wp_region_typed wr 10 (by kernel_rfl) (by kernel_rfl) (Below.refl _ _) ?_; simp only [List.take_succ_cons, List.take_zero, List.take_nil]
          iterate 9 (refine wpX_step (by rfl) (fun K hK => ?_); go_simp; first | (refine hK _ ?_; clear hK K) | (apply Exists.intro; refine ⟨fun _ => ?_, hK _ ?_⟩; fail; clear hK K))
          refine wpX_rel 27 (fun v w1 => RowOf b8 1 w1 v [x * 16 + y]) rfl (of_decide_eq_true rfl) (fun v w1 w2 h1 h2 => RowOf.kept h1 h2) (fun w1 hw1 => ?_) ?_
          · simp only [relOf, List.filter_nil, forallRel]
            refine ⟨rfl, ?_⟩
            go_simp
            exact (Below.refl _ _).alloc (Nat.le_refl _) _
          refine wpX_nil ?_
          intro w1 hw1 v27 h27
          change wpList _ _ _ [_, _] _ _
          have hown1 : OwnOf b8 1 5 w1 w.heap.size u4 (joinL (l.take (2 * i))) := hown.kept hw1
          have hbel1 := hbel.trans (hw1.mono hB)
          have hB1 : w.heap.size ≤ w1.heap.size := Nat.le_trans hB hw1.size
          go_wp2_with (at_builtin; refine wpList_app rfl (.tmp 18) (.tmp 27) 34 rfl elU8 rfl hown1 rfl h27 hbel1 hB1 Hbytes.out H63.out ?_; intro v4 w4 hv4 hg4 _ hB4)
          rw [← Hj.out] at hv4
          go_roundw
          case rel => exact ⟨i + 1, m - 2, a2, c2, by have := Him.out; omega, rfl, hr2, hv4, hg4, hB4⟩
          case measure => simp [lenV]; try omega
end Go.Proofs.Ytfedjbodcebdnaa
