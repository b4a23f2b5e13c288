/- nib.Halves, Join and the reference's NHalves, NJoin. | nib.wrong, Join and the reference's NJoin. | The reference's NJoin. -/
import Derived.Test.YtljbbpcnoajfeaaTabs
import Derived.Test.YtljbbpcnoajfeaaBase
import Derived.StillTailTactics
/- (Nib2) nib.Halves, Join and the reference's NHalves, NJoin. -/
set_option linter.unusedSimpArgs false
set_option linter.unusedVariables false
namespace Go.Proofs.Ytljbbpcnoajfeaa
open Go.RowKit
/-- two halves of each byte -/
def halfB (x : UInt8) : List UInt8 := [x / 16, x % 16]
def halvesL (l : List UInt8) : List UInt8 := l.flatMap halfB
def joinL : List UInt8 → List UInt8
  | x :: y :: l => (x * 16 + y) :: joinL l
  | _ => []
def wrongB (l : List UInt8) : Bool := l.any fun x => decide (15 < x.toNat)
def joinOk (l : List UInt8) : Bool := l.length % 2 == 0 && !wrongB l
theorem halves_len (l : List UInt8) : (halvesL l).length = 2 * l.length := by
  induction l with
  | nil => rfl
  | cons x l ih => simp [halvesL, halfB] at ih ⊢; omega
theorem halves_snoc (l : List UInt8) (x : UInt8) : halvesL (l ++ [x]) = halvesL l ++ [x / 16, x % 16] := by simp [halvesL, halfB]
theorem bits_u8_15 (x : UInt8) : bits .and .u8 (x.toNat : Int) 15 = ((x % 16).toNat : Int) := by
  have h := x.toNat_lt
  have := u8_and_nat x.toNat 15 (by omega) (by omega)
  rw [show ((15 : Nat) : Int) = 15 from rfl] at this
  rw [this, UInt8.toNat_mod, nat_mask4]; rfl
theorem div_u8_16 (x : UInt8) : (x.toNat : Int) / 16 = ((x / 16).toNat : Int) := by
  rw [UInt8.toNat_div]; rfl
theorem mod_u8_16 (x : UInt8) : (x.toNat : Int) % 16 = ((x % 16).toNat : Int) := by
  rw [UInt8.toNat_mod]; rfl
theorem half_cells (x : UInt8) : [Value.int .u8 ((x.toNat : Int) / 16), Value.int .u8 ((x.toNat : Int) % 16)] = [x / 16, x % 16].flatMap b8 := by
  rw [div_u8_16, mod_u8_16]; rfl
theorem snoc_at (l : List UInt8) (k : Nat) (h : k < l.length) : l.take (k + 1) = l.take k ++ [l[k]] := by rw [List.take_succ_eq_append_getElem h]

theorem halves_at (l : List UInt8) : ∀ (i : Nat) (h : i < 2 * l.length), (halvesL l)[i]'(by rw [halves_len]; exact h) = if i % 2 = 1 then l[i / 2] % 16 else l[i / 2] / 16 := by
  induction l with
  | nil => intro i h; simp at h
  | cons x l ih =>
    intro i h
    have e : halvesL (x :: l) = x / 16 :: x % 16 :: halvesL l := by simp [halvesL, halfB]
    simp only [e]
    match i, h with
    | 0, _ => rfl
    | 1, _ => rfl
    | i + 2, h =>
      have h2 : i < 2 * l.length := by simp at h; omega
      simp only [List.getElem_cons_succ]
      rw [ih i h2]
      have e1 : (i + 2) % 2 = i % 2 := by omega
      have e2 : (i + 2) / 2 = i / 2 + 1 := by omega
      simp only [e1, e2, List.getElem_cons_succ]
set_option maxHeartbeats 400000 in
set_option maxRecDepth 100000 in
theorem nhalves_any (a : Option Addr) (c : Nat) (l : List UInt8) (w : World) (h : Bytes w (.slice a l.length c) l) (hl : 2 * l.length ≤ 140737488355328) :
    Calls Try.prog 57 #[.slice a l.length c] w fun e w' => ∃ v, e = .returned v ∧ OwnOf b8 1 5 w' w.heap.size v (halvesL l) ∧ Below w.heap.size w w' := by
  obtain ⟨T, hT⟩ : ∃ T, T = (halvesL l).map u8v := ⟨_, rfl⟩
  have hTl : T.length = 2 * l.length := by rw [hT, List.length_map, halves_len]
  obtain ⟨n, hn⟩ : ∃ n, n = 2 * l.length := ⟨_, rfl⟩
  have hmul : (2 : Int) * (l.length : Int) = (n : Int) := by omega
  have hnb : n ≤ 140737488355328 := by omega
  have hTat : ∀ (i : Nat) (x : UInt8), l[i / 2]? = some x → T[i]? = some (u8v (if i % 2 = 1 then x % 16 else x / 16)) := by
    intro i x hx
    obtain ⟨h1, rfl⟩ := List.getElem?_eq_some_iff.1 hx
    subst hT
    rw [List.getElem?_map, List.getElem?_eq_getElem (by rw [halves_len]; omega), halves_at l i (by omega)]
    rfl
  have hTn : T.length = n := by omega
  have Hn := Lib.hid hn
  have HT := Lib.hid hT
  have HTn := Lib.hid hTn
  have HTat := Lib.hid hTat
  clear hTat hT hTl hTn hn
  go_enter Try.func57, Try.ntmps57
  go_wp2_with (refine wpList_make1 rfl (.tmp 7) (.tmp 7) 22 rfl elU8 rfl .i64 .i64 _ _ n rfl rfl ?_ ?_ (Below.refl _ _) (Nat.le_refl _) ?_ ?_ ?_)
  · rfl
  · rfl
  · omega
  · unfold maxLen; omega
  intro w1 hblk hbel _ hB
  go_wp2
  go_loopw [11] (fun i wr => ∃ k : Nat, k ≤ n ∧ i = .int .i64 k ∧ Blk 5 wr w.heap.size (fillL T (.int .u8 0) k) ∧ Below w.heap.size w wr) (fun i _ => n - (intOf i).toNat)
  case atStart => exact ⟨0, Nat.zero_le _, rfl, by rw [fill_zero, HTn.out]; exact hblk, hbel⟩
  case round =>
    clear hblk hbel hB
    obtain ⟨k, hk, rfl, hblk, hbel⟩ := hrel
    by_cases hlt : k < n
    · have hk2 : k / 2 < l.length := by have := Hn.out; omega
      obtain ⟨b, off, rfl, hbl, hc⟩ := h.later hbel (k / 2) hk2
      obtain ⟨x, hx⟩ : ∃ x, x = l[k / 2] := ⟨_, rfl⟩
      rw [← hx] at hc
      have Hx := Lib.hid hx
      clear hx
      have hq : (k : Int) / 2 < (l.length : Int) := by omega
      have hxb := u8_lt x
      obtain ⟨y1, hy1⟩ := hblk.has k (by rw [fill_len _ _ _ (by rw [HTn.out]; omega), HTn.out]; exact hlt)
      have hf1 := hblk.free k
      have hc2 := cell_aside (q := ⟨w.heap.size, k, none⟩) (u := .int .u8 ((x.toNat : Int) / 16)) hc (by simp; omega)
      have hblk2 := hblk.set k (.int .u8 ((x.toNat : Int) / 16))
      have hf2 := hblk2.free k
      have hblk3 := hblk2.set k (.int .u8 ((x.toNat : Int) % 16))
      have hset := fill_set' T (.int .u8 0) k _ (HTat.out k x (by rw [List.getElem?_eq_getElem hk2, Hx.out]))
      have Hset := Lib.hid hset
      clear hset
      by_cases hodd : k % 2 = 1
      · have ht : ((k : Int) % 2 == 1) = true := by rw [beq_iff_eq]; omega
        go_wp2
        go_roundw
        case rel =>
          have hs := Hset.out
          rw [if_pos hodd] at hs
          rw [List.set_set, mod_u8_16, show Value.int .u8 ((x % 16).toNat : Int) = u8v (x % 16) from rfl, hs] at hblk3
          exact ⟨k + 1, by omega, by go_num, by rw [mod_u8_16] ; exact hblk3, (hbel.setCell (Nat.le_refl _) _).setCell (Nat.le_refl _) _⟩
        case measure => simp [intOf]; try omega
      · have ht : ((k : Int) % 2 == 1) = false := by rw [beq_eq_false_iff_ne]; omega
        go_wp2
        go_roundw
        case rel =>
          have hs := Hset.out
          rw [if_neg hodd] at hs
          rw [div_u8_16, show Value.int .u8 ((x / 16).toNat : Int) = u8v (x / 16) from rfl, hs] at hblk2
          exact ⟨k + 1, by omega, by go_num, by rw [div_u8_16] ; exact hblk2, hbel.setCell (Nat.le_refl _) _⟩
        case measure => simp [intOf]; try omega
    · obtain rfl : k = n := by omega
      have e : fillL T (.int .u8 0) k = (halvesL l).flatMap b8 := by
        have := fill_end T (.int .u8 0)
        rw [HTn.out] at this
        rw [this, HT.out, flat_b8]
      rw [e] at hblk
      have hown := hblk.own (B := w.heap.size) k (fun _ => rfl) (by rw [halves_len]; exact Hn.out.symm) (Nat.le_refl _) (by unfold maxLen; omega)
      clear e
      go_wp2
      go_ret
      exact ⟨_, rfl, hown, hbel⟩
end Go.Proofs.Ytljbbpcnoajfeaa
/- (Nib3) nib.wrong, Join and the reference's NJoin. -/
namespace Go.Proofs.Ytljbbpcnoajfeaa
open Go.RowKit
theorem wrong_false (l : List UInt8) (k : Nat) (h : ∀ j (hj : j < l.length), j < k → (l[j]).toNat ≤ 15) (hk : l.length ≤ k) : wrongB l = false := by
  unfold wrongB
  rw [List.any_eq_false]
  intro x hx
  obtain ⟨j, hj, rfl⟩ := List.getElem_of_mem hx
  have := h j hj (by omega)
  simp; omega
theorem wrong_true (l : List UInt8) (k : Nat) (hk : k < l.length) (hx : 15 < (l[k]).toNat) : wrongB l = true := by
  unfold wrongB
  rw [List.any_eq_true]
  exact ⟨l[k], List.getElem_mem hk, by simpa using hx⟩
theorem wrong_le (l : List UInt8) (h : wrongB l = false) (k : Nat) (hk : k < l.length) : (l[k]).toNat ≤ 15 := by
  unfold wrongB at h
  rw [List.any_eq_false] at h
  have := h l[k] (List.getElem_mem hk)
  simpa using this
set_option maxHeartbeats 400000 in
set_option maxRecDepth 100000 in
theorem wrong_any (a : Option Addr) (c : Nat) (l : List UInt8) (w : World) (h : Bytes w (.slice a l.length c) l) :
    Calls Try.prog 54 #[.slice a l.length c] w fun e w' => e = .returned (.bool (wrongB l)) ∧ w = w' := by
  have hl := h.small
  unfold maxLen at hl
  go_enter Try.func54, Try.ntmps54
  go_wp2
  go_loop [7] (fun i => ∃ k : Nat, k ≤ l.length ∧ i = .int .i64 k ∧ ∀ j (hj : j < l.length), j < k → (l[j]).toNat ≤ 15) (fun i => l.length - (intOf i).toNat)
  case atStart => exact ⟨0, Nat.zero_le _, rfl, fun j _ hj => by omega⟩
  case round =>
    obtain ⟨k, hk, rfl, hall⟩ := hrel
    have Hall := Lib.hid hall
    clear hall
    by_cases hlt : k < l.length
    · obtain ⟨b, off, rfl, hc⟩ := h.at k hlt
      obtain ⟨x, hx⟩ : ∃ x, x = l[k] := ⟨_, rfl⟩
      rw [← hx] at hc
      have Hx := Lib.hid hx
      clear hx
      have hxb := u8_lt x
      by_cases h15 : 15 < x.toNat
      · have ht : (15 : Int) < (x.toNat : Int) := by omega
        have hfin := Lib.hid (wrong_true l k hlt (by rw [← Hx.out]; exact h15))
        go_wp2
        go_ret
        exact ⟨ret_bool hfin.out.symm, rfl⟩
      · have ht : (x.toNat : Int) ≤ 15 := by omega
        go_wp2
        go_round
        case rel => exact ⟨k + 1, by omega, by go_num, fun j hj hjk => by
          by_cases hjk' : j < k
          · exact Hall.out j hj hjk'
          · obtain rfl : j = k := by omega
            rw [← Hx.out]; omega⟩
        case measure => simp [intOf]; try omega
    · have hfin := Lib.hid (wrong_false l k Hall.out (by omega))
      go_wp2
      go_ret
      exact ⟨ret_bool hfin.out.symm, rfl⟩
def joinE (l : List UInt8) : Int := if joinOk l then 0 else 1
def joinR (l : List UInt8) : List UInt8 := if joinOk l then joinL l else []
theorem join_yes {l : List UInt8} (h : joinOk l = true) : joinE l = 0 ∧ joinR l = joinL l := by unfold joinE joinR; simp [h]
theorem join_no {l : List UInt8} (h : joinOk l = false) : joinE l = 1 ∧ joinR l = [] := by unfold joinE joinR; simp [h]
theorem join_take (l : List UInt8) : ∀ (i : Nat) (h : 2 * i + 1 < l.length), joinL (l.take (2 * i + 2)) = joinL (l.take (2 * i)) ++ [l[2 * i] * 16 + l[2 * i + 1]] := by
  induction l using joinL.induct with
  | case1 x y l ih =>
    intro i h
    cases i with
    | zero => simp [joinL]
    | succ i =>
      have e1 : 2 * (i + 1) + 2 = (2 * i + 2) + 2 := by omega
      have e2 : 2 * (i + 1) = 2 * i + 2 := by omega
      simp only [e1, e2, List.take_succ_cons, joinL, List.cons_append, List.getElem_cons_succ]
      rw [ih i (by simp at h; omega)]
  | case2 l hl =>
    intro i h
    exfalso
    match l, hl with
    | [], _ => simp at h
    | [x], _ => simp at h
    | x :: y :: l, hl => exact hl x y l rfl
theorem joinL_le (l : List UInt8) : 2 * (joinL l).length ≤ l.length := by
  induction l using joinL.induct with
  | case1 x y l ih => simp [joinL]; omega
  | case2 l hl =>
    match l, hl with
    | [], _ => simp [joinL]
    | [x], _ => simp [joinL]
    | x :: y :: l, hl => exact (hl x y l rfl).elim
theorem join_bits (x y : UInt8) (hx : x.toNat ≤ 15) (hy : y.toNat ≤ 15) : bits .or .u8 ((x.toNat : Int) * 16) (y.toNat : Int) = ((x * 16 + y).toNat : Int) := by
  have h := u8_or_nat (x.toNat * 16) y.toNat (by omega) (by omega)
  rw [Int.natCast_mul] at h
  rw [show ((16 : Nat) : Int) = 16 from rfl] at h
  rw [h, nat_join 4 _ _ (by omega) (by omega)]
  have : (x * 16 + y).toNat = x.toNat * 16 + y.toNat := by
    rw [UInt8.toNat_add, UInt8.toNat_mul, show (16 : UInt8).toNat = 16 from rfl]; omega
  rw [this]
set_option maxHeartbeats 400000 in
set_option maxRecDepth 100000 in
theorem join_any (a : Option Addr) (c : Nat) (l : List UInt8) (w : World) (h : Bytes w (.slice a l.length c) l) (hl : l.length ≤ 140737488355328) :
    Calls Try.prog 24 #[.slice a l.length c] w fun e w' => ∃ v, e = .returned (.tuple #[v, .int .i64 (joinE l)]) ∧ OwnOf b8 1 5 w' w.heap.size v (joinR l) ∧ Below w.heap.size w w' := by
  obtain ⟨n, hn⟩ : ∃ n, n = l.length := ⟨_, rfl⟩
  rw [← hn] at h hl ⊢
  have Hn := Lib.hid hn
  have hwr := fun w1 (b1 : Below w.heap.size w w1) => wrong_any a c l w1 (by have := h.below b1; rw [hn] at this; exact this)
  rw [← hn] at hwr
  have Hwr := Lib.hid hwr
  clear hwr hn
  by_cases hodd : n % 2 = 1
  · have hok : joinOk l = false := by unfold joinOk; rw [← Hn.out]; simp [hodd]
    rw [(join_no hok).1, (join_no hok).2]
    have ht : ((n : Int) % 2 == 1) = true := by rw [beq_iff_eq]; omega
    clear hok
    go_enter Try.func24, Try.ntmps24
    go_wp2_with fail
    go_ret2
    exact ⟨_, rfl, OwnOf.nil _ _ _ _ _, Below.refl _ _⟩
  · have ht : ((n : Int) % 2 == 1) = false := by rw [beq_eq_false_iff_ne]; omega
    by_cases hwb : wrongB l = true
    · have hok : joinOk l = false := by unfold joinOk; rw [hwb]; simp
      rw [(join_no hok).1, (join_no hok).2]
      clear hok
      go_enter Try.func24, Try.ntmps24
      go_wp2_with (go_at_call 54; refine (Hwr.out _ (Below.refl _ _)).mono ?_; rintro e w1 ⟨rfl, rfl⟩)
      go_ret2
      exact ⟨_, rfl, OwnOf.nil _ _ _ _ _, Below.refl _ _⟩
    · have hwf : wrongB l = false := by simpa using hwb
      have hok : joinOk l = true := by unfold joinOk; rw [hwf, ← Hn.out]; simp; omega
      rw [(join_yes hok).1, (join_yes hok).2]
      have hle := Lib.hid (wrong_le l hwf)
      clear hok hwb
      go_enter Try.func24, Try.ntmps24
      go_wp2_with (go_at_call 54; refine (Hwr.out _ (Below.refl _ _)).mono ?_; rintro e w1 ⟨rfl, rfl⟩)
      go_loopw [0, 4] (fun p v wr => ∃ i m a' c', 2 * i + m = n ∧ p = .slice a' m c' ∧ Bytes w (.slice a' m c') (l.drop (2 * i)) ∧ OwnOf b8 1 5 wr w.heap.size v (joinL (l.take (2 * i))) ∧ Below w.heap.size w wr ∧ w.heap.size ≤ wr.heap.size) (fun p _ _ => lenV p)
      case atStart => exact ⟨0, n, a, c, by omega, rfl, by simpa using h, OwnOf.nil _ _ _ _ _, Below.refl _ _, Nat.le_refl _⟩
      case round =>
        obtain ⟨i, m, a', c', him, rfl, hp, hown, hbel, hB⟩ := hrel
        have Him := Lib.hid him
        by_cases hm : m = 0
        · have hfin : l.take (2 * i) = l := List.take_of_length_le (by have := Hn.out; omega)
          rw [hfin] at hown
          have ht2 : decide ((0 : Int) < (m : Int)) = false := by rw [decide_eq_false_iff_not]; omega
          subst hm
          clear him hfin
          go_wp2
          go_ret2
          exact ⟨_, rfl, hown, hbel⟩
        · have hm2 : 2 ≤ m := by omega
          have hlen : (l.drop (2 * i)).length = m := by have := Hn.out; simp; omega
          obtain ⟨b, off, rfl, hbl, hc0⟩ := hp.later hbel 0 (by omega)
          obtain ⟨_, _, e, _, hc1⟩ := hp.later hbel 1 (by omega)
          simp only [Option.some.injEq, Addr.mk.injEq, and_true] at e
          obtain ⟨rfl, rfl⟩ := e
          obtain ⟨x, hx⟩ : ∃ x, x = (l.drop (2 * i))[0] := ⟨_, rfl⟩
          obtain ⟨y, hy⟩ : ∃ y, y = (l.drop (2 * i))[1] := ⟨_, rfl⟩
          rw [← hx, Nat.add_zero] at hc0
          rw [← hy] at hc1
          have hx2 : x = l[2 * i]'(by have := Hn.out; omega) := by rw [hx]; simp
          have hy2 : y = l[2 * i + 1]'(by have := Hn.out; omega) := by rw [hy]; simp
          have hxl : x.toNat ≤ 15 := by rw [hx2]; exact hle.out _ _
          have hyl : y.toNat ≤ 15 := by rw [hy2]; exact hle.out _ _
          have hxi : (x.toNat : Int) ≤ 15 ∧ 0 ≤ (x.toNat : Int) := by omega
          have hyi : (y.toNat : Int) ≤ 15 ∧ 0 ≤ (y.toNat : Int) := by omega
          have hj := join_take l i (by have := Hn.out; omega)
          rw [← hx2, ← hy2] at hj
          have Hj := Lib.hid hj
          obtain ⟨a2, c2, hs2, hr2⟩ := RowOf.from elU8 hp 2 hm2 2 rfl
          rw [List.drop_drop] at hr2
          have hjb := join_bits x y hxl hyl
          have Hcell : Hid ([Value.int .u8 (bits .or .u8 ((x.toNat : Int) * 16) (y.toNat : Int))] = b8 (x * 16 + y)) := by rw [hjb]; exact Lib.hid rfl
          have hone := fun w1 : World => (RowOf.one b8 1 w1 (x * 16 + y) #[.int .u8 (bits .or .u8 ((x.toNat : Int) * 16) (y.toNat : Int))] 5 Hcell.out rfl)
          have hwx : IntKind.u8.wrap ((x.toNat : Int) * 16) = (x.toNat : Int) * 16 := by rw [IntKind.wrap_u8']; omega
          have ht2 : (0 : Int) < (m : Int) := by omega
          have ht3 : (1 : Int) < (m : Int) := by omega
          have ht4 : 0 < m := by omega
          have ht5 : 1 < m := by omega
          have hjl : (joinL (l.take (2 * i))).length + 1 ≤ n := by
            have := joinL_le (l.take (2 * i)); rw [List.length_take] at this; omega
          have hbytes : ((joinL (l.take (2 * i))).length + [x * 16 + y].length) * 1 ≤ 140737488355328 := by simp; omega
          have h63 : (joinL (l.take (2 * i))).length + [x * 16 + y].length ≤ maxLen := by simp [maxLen]; omega
          have Hbytes := Lib.hid hbytes
          have H63 := Lib.hid h63
          clear hbytes h63
          clear hj hx hy hx2 hy2 him hlen hxl hyl hjb
          go_wp2
          have k0 := fun u : Ext wr => u.cell hc0
          have k1 := fun u : Ext wr => u.cell hc1
          refine wp_region_typed wr 10 (by kernel_rfl) (by kernel_rfl) (Below.refl _ _) ?_; simp only [List.take_succ_cons, List.take_zero, List.take_nil]
          iterate 9 (refine wpX_step (by rfl) (fun K hK => ?_); go_simp; first | (refine hK _ ?_; clear hK K) | (apply Exists.intro; refine ⟨fun _ => ?_, hK _ ?_⟩; fail; clear hK K))
          refine wpX_rel 27 (fun v w1 => RowOf b8 1 w1 v [x * 16 + y]) rfl (of_decide_eq_true rfl) (fun v w1 w2 h1 h2 => RowOf.kept h1 h2) (fun w1 hw1 => ?_) ?_
          · simp only [relOf, List.filter_nil, forallRel]
            refine ⟨rfl, ?_⟩
            go_simp
            exact (Below.refl _ _).alloc (Nat.le_refl _) _
          refine wpX_nil ?_
          intro w1 hw1 v27 h27
          change wpList _ _ _ [_, _] _ _
          have hown1 : OwnOf b8 1 5 w1 w.heap.size u4 (joinL (l.take (2 * i))) := hown.kept hw1
          have hbel1 := hbel.trans (hw1.mono hB)
          have hB1 : w.heap.size ≤ w1.heap.size := Nat.le_trans hB hw1.size
          go_wp2_with (at_builtin; refine wpList_app rfl (.tmp 18) (.tmp 27) 22 rfl elU8 rfl hown1 rfl h27 hbel1 hB1 Hbytes.out H63.out ?_; intro v4 w4 hv4 hg4 _ hB4)
          rw [← Hj.out] at hv4
          go_roundw
          case rel => exact ⟨i + 1, m - 2, a2, c2, by have := Him.out; omega, rfl, hr2, hv4, hg4, hB4⟩
          case measure => simp [lenV]; try omega
end Go.Proofs.Ytljbbpcnoajfeaa
/- (Nib4) The reference's NJoin. -/
namespace Go.Proofs.Ytljbbpcnoajfeaa
open Go.RowKit
theorem half_le (x : UInt8) : (x / 16).toNat ≤ 15 ∧ (x % 16).toNat ≤ 15 := by
  have := x.toNat_lt
  rw [UInt8.toNat_div, UInt8.toNat_mod, show (16 : UInt8).toNat = 16 from rfl]; omega
theorem halves_wrong (l : List UInt8) : wrongB (halvesL l) = false := by
  unfold wrongB
  rw [List.any_eq_false]
  intro x hx
  unfold halvesL at hx
  obtain ⟨y, _, hy⟩ := List.mem_flatMap.1 hx
  have := half_le y
  simp only [halfB, List.mem_cons, List.not_mem_nil, or_false] at hy
  rcases hy with rfl | rfl
  · have := this.1; rw [decide_eq_true_eq]; omega
  · have := this.2; rw [decide_eq_true_eq]; omega
theorem halves_join (l : List UInt8) (h : joinOk l = true) : halvesL (joinL l) = l := by
  induction l using joinL.induct with
  | case1 x y l ih =>
    unfold joinOk at h ih
    simp only [wrongB, List.length_cons, List.any_cons, Bool.and_eq_true, Bool.not_eq_true', Bool.or_eq_false_iff, decide_eq_false_iff_not, beq_iff_eq] at h ih
    have ih' := ih ⟨by omega, h.2.2.2⟩
    have hx : x.toNat ≤ 15 := by omega
    have hy : y.toNat ≤ 15 := by omega
    have e1 : (x * 16 + y) / 16 = x := by
      apply UInt8.toNat_inj.1
      rw [UInt8.toNat_div, UInt8.toNat_add, UInt8.toNat_mul, show (16 : UInt8).toNat = 16 from rfl]; omega
    have e2 : (x * 16 + y) % 16 = y := by
      apply UInt8.toNat_inj.1
      rw [UInt8.toNat_mod, UInt8.toNat_add, UInt8.toNat_mul, show (16 : UInt8).toNat = 16 from rfl]; omega
    have : halvesL (joinL (x :: y :: l)) = (x * 16 + y) / 16 :: (x * 16 + y) % 16 :: halvesL (joinL l) := by simp [joinL, halvesL, halfB]
    rw [this, e1, e2, ih']
  | case2 l hl =>
    match l, hl with
    | [], _ => rfl
    | [x], _ => simp [joinOk] at h
    | x :: y :: l, hl => exact (hl x y l rfl).elim
theorem halves_join_not (l : List UInt8) (h : joinOk l = false) : halvesL (joinL l) ≠ l := by
  intro e
  have h1 := halves_wrong (joinL l)
  have h2 := halves_len (joinL l)
  rw [e] at h1 h2
  unfold joinOk at h
  rw [h1, h2] at h
  simp at h
theorem joinL_len (l : List UInt8) : (joinL l).length = l.length / 2 := by
  induction l using joinL.induct with
  | case1 x y l ih => simp [joinL]; omega
  | case2 l hl =>
    match l, hl with
    | [], _ => rfl
    | [x], _ => simp [joinL]
    | x :: y :: l, hl => exact (hl x y l rfl).elim
theorem joinL_at (l : List UInt8) : ∀ (i : Nat) (h : 2 * i + 1 < l.length), (joinL l)[i]? = some (l[2 * i] * 16 + l[2 * i + 1]) := by
  induction l using joinL.induct with
  | case1 x y l ih =>
    intro i h
    cases i with
    | zero => simp [joinL]
    | succ i =>
      have e1 : 2 * (i + 1) = 2 * i + 2 := by omega
      simp only [joinL, List.getElem?_cons_succ, e1, List.getElem_cons_succ]
      exact ih i (by simp at h; omega)
  | case2 l hl =>
    intro i h
    exfalso
    match l, hl with
    | [], _ => simp at h
    | [x], _ => simp at h
    | x :: y :: l, hl => exact hl x y l rfl
theorem join_wrap (x y : UInt8) : IntKind.u8.wrap (IntKind.u8.wrap ((x.toNat : Int) * 16) + (y.toNat : Int)) = ((x * 16 + y).toNat : Int) := by
  rw [IntKind.wrap_u8', IntKind.wrap_u8', UInt8.toNat_add, UInt8.toNat_mul, show (16 : UInt8).toNat = 16 from rfl]; omega
set_option maxHeartbeats 400000 in
set_option maxRecDepth 100000 in
theorem njoin_any (a : Option Addr) (c : Nat) (l : List UInt8) (w : World) (h : Bytes w (.slice a l.length c) l) (hl : l.length ≤ 140737488355328) :
    Calls Try.prog 28 #[.slice a l.length c] w fun e w' => ∃ v, e = .returned (.tuple #[v, .int .i64 (joinE l)]) ∧ OwnOf b8 1 5 w' w.heap.size v (joinR l) ∧ Below w.heap.size w w' := by
  obtain ⟨m, hm⟩ : ∃ m, m = l.length / 2 := ⟨_, rfl⟩
  have hdiv : (l.length : Int) / 2 = (m : Int) := by omega
  obtain ⟨T, hT⟩ : ∃ T, T = (joinL l).map u8v := ⟨_, rfl⟩
  have hTn : T.length = m := by rw [hT, List.length_map, joinL_len, hm]
  have hTat : ∀ (i : Nat), (h : 2 * i + 1 < l.length) → T[i]? = some (u8v (l[2 * i] * 16 + l[2 * i + 1])) := by
    intro i h
    rw [hT, List.getElem?_map, joinL_at l i h]; rfl
  have hmb : 2 * m ≤ l.length := by omega
  have Hm := Lib.hid hm
  have HT := Lib.hid hT
  have HTn := Lib.hid hTn
  have HTat := Lib.hid hTat
  clear hTat hTn hT hm
  go_enter Try.func28, Try.ntmps28
  go_wp2_with (refine wpList_make1 rfl (.tmp 8) (.tmp 8) 22 rfl elU8 rfl .i64 .i64 _ _ m rfl rfl ?_ ?_ (Below.refl _ _) (Nat.le_refl _) ?_ ?_ ?_)
  · rfl
  · rfl
  · omega
  · unfold maxLen; omega
  intro w1 hblk hbel _ hB
  go_wp2
  go_loopw [12] (fun i wr => ∃ k : Nat, k ≤ m ∧ i = .int .i64 k ∧ Blk 5 wr w.heap.size (fillL T (.int .u8 0) k) ∧ Below w.heap.size w wr) (fun i _ => m - (intOf i).toNat)
  case atStart => exact ⟨0, Nat.zero_le _, rfl, by rw [fill_zero, HTn.out]; exact hblk, hbel⟩
  case round =>
    clear hblk hbel hB
    obtain ⟨k, hk, rfl, hblk, hbel⟩ := hrel
    by_cases hlt : k < m
    · obtain ⟨b, off, rfl, hbl, hc0⟩ := h.later hbel (2 * k) (by omega)
      obtain ⟨_, _, e, _, hc1⟩ := h.later hbel (2 * k + 1) (by omega)
      simp only [Option.some.injEq, Addr.mk.injEq, and_true] at e
      obtain ⟨rfl, rfl⟩ := e
      have hTk := HTat.out k (by omega)
      obtain ⟨x, hx⟩ : ∃ x, x = l[2 * k] := ⟨_, rfl⟩
      obtain ⟨y, hy⟩ : ∃ y, y = l[2 * k + 1] := ⟨_, rfl⟩
      rw [← hx, ← hy] at hTk
      rw [← hx] at hc0
      rw [← hy] at hc1
      obtain ⟨j0, hj0⟩ : ∃ j0, j0 = 2 * k := ⟨_, rfl⟩
      obtain ⟨j1, hj1⟩ : ∃ j1, j1 = j0 + 1 := ⟨_, rfl⟩
      rw [← hj0] at hc0 hc1
      rw [← hj1] at hc1
      have e0 : IntKind.i64.wrap (2 * (k : Int)) = (j0 : Int) := by rw [IntWalk.i64_in _ (by omega)]; omega
      have e1 : IntKind.i64.wrap ((j0 : Int) + 1) = (j1 : Int) := by rw [IntWalk.i64_in _ (by omega)]; omega
      have g0 : (j0 : Int) < (l.length : Int) := by omega
      have g1 : (j1 : Int) < (l.length : Int) := by omega
      have g0' : j0 < l.length := by omega
      have g1' : j1 < l.length := by omega
      have hset := fill_set' T (.int .u8 0) k _ hTk
      have Hset := Lib.hid hset
      obtain ⟨y1, hy1⟩ := hblk.has k (by rw [fill_len _ _ _ (by rw [HTn.out]; omega), HTn.out]; exact hlt)
      have hf1 := hblk.free k
      have hw8 := join_wrap x y
      obtain ⟨z, hz⟩ : ∃ z, z = x * 16 + y := ⟨_, rfl⟩
      rw [← hz] at hw8
      have Hz := Lib.hid hz
      clear hset hTk hx hy hj0 hj1 hz
      have k0 := fun u : Ext wr => u.cell hc0
      have k1 := fun u : Ext wr => u.cell hc1
      go_wp2
      refine wp_region_typed wr 15 (by kernel_rfl) (by kernel_rfl) (Below.refl _ _) ?_; simp only [List.take_succ_cons, List.take_zero, List.take_nil]
      iterate 15 (refine wpX_step (by rfl) (fun K hK => ?_); go_simp; first | (refine hK _ ?_; clear hK K) | (apply Exists.intro; refine ⟨fun _ => ?_, hK _ ?_⟩; fail; clear hK K))
      refine wpX_nil ?_
      intro w1 hw1
      change wpList _ _ _ [_, _] _ _
      have hblk1 := hblk.kept hw1
      have hbel1 := hbel.trans (hw1.mono (Nat.le_of_lt hblk.lt))
      obtain ⟨y2, hy2⟩ := hblk1.has k (by rw [fill_len _ _ _ (by rw [HTn.out]; omega), HTn.out]; exact hlt)
      have hf2 := hblk1.free k
      have hblk2 := hblk1.set k (.int .u8 (z.toNat : Int))
      rw [show Value.int .u8 (z.toNat : Int) = u8v z from rfl, Hz.out, Hset.out] at hblk2
      go_wp2
      go_roundw
      case rel =>
        refine ⟨k + 1, by omega, by go_num, ?_, hbel1.setCell (Nat.le_refl _) _⟩
        rw [show Value.int .u8 (z.toNat : Int) = u8v z from rfl, Hz.out]
        exact hblk2
      case measure => simp [intOf]; try omega
    · obtain rfl : k = m := by omega
      have e : fillL T (.int .u8 0) k = (joinL l).flatMap b8 := by
        have := fill_end T (.int .u8 0)
        rw [HTn.out] at this
        rw [this, HT.out, flat_b8]
      rw [e] at hblk
      have hjl : (joinL l).length = k := by rw [joinL_len]; exact Hm.out.symm
      have hown := hblk.own (B := w.heap.size) k (fun _ => rfl) hjl (Nat.le_refl _) (by unfold maxLen; omega)
      have hrow := hown.row
      have Hjl := Lib.hid hjl
      have hs : ∀ u : Ext wr, (convert 22 9 (.slice a l.length c)).run Try.prog u.val = .ok (str l) u.val := fun u => run_str elU8.ht (by kernel_rfl) (by kernel_rfl) (h.below (hbel.trans (u.bel.mono (Nat.le_of_lt hblk.lt))))
      have Hne : Hid (((halvesL (joinL l)) == l) = joinOk l) := by
        cases hok : joinOk l with
        | true => rw [halves_join l hok]; exact Lib.hid (by simp)
        | false => exact Lib.hid (by have := halves_join_not l hok; simpa using this)
      clear e hjl
      go_wp2
      refine wp_region_typed wr 6 (by kernel_rfl) (by kernel_rfl) (Below.refl _ _) ?_; simp only [List.take_succ_cons, List.take_zero, List.take_nil]
      (refine wpX_step (by rfl) (fun K hK => ?_); go_simp; first | (refine hK _ ?_; clear hK K) | (apply Exists.intro; refine ⟨fun _ => ?_, hK _ ?_⟩; fail; clear hK K))
      refine wpX_rel 33 (fun v w1 => Bytes w1 v (halvesL (joinL l))) rfl (of_decide_eq_true rfl) (fun v w1 w2 h1 h2 => RowOf.kept h1 h2) (fun w1 hw1 => ?_) ?_
      · simp only [relOf, List.filter_nil, forallRel]
        refine ⟨rfl, ?_⟩
        go_simp
        have hr := hrow.below hw1
        rw [← Hjl.out] at hr ⊢
        refine (nhalves_any _ _ (joinL l) _ hr (by rw [Hjl.out]; omega)).mono ?_
        rintro e w2 ⟨v, rfl, hv, hb⟩
        exact ⟨v, rfl, hv.row, hb⟩
      refine wpX_eq (str (halvesL (joinL l))) (fun w1 hw1 => ?_) ?_
      · change forallRel w1 [(33, _)] _ _
        intro v33 h33
        have hc := run_str (P := Try.prog) (w := w1) (src := 22) (dst := 9) elU8.ht (by kernel_rfl) (by kernel_rfl) h33
        simp only [forallRel]
        refine ⟨rfl, ?_⟩
        go_simp
        exact Below.refl _ _
      iterate 2 (refine wpX_step (by rfl) (fun K hK => ?_); go_simp; first | (refine hK _ ?_; clear hK K) | (apply Exists.intro; refine ⟨fun _ => ?_, hK _ ?_⟩; fail; clear hK K))
      refine wpX_eq (.bool (!joinOk l)) (fun w1 hw1 => ?_) ?_
      · change forallRel w1 [] _ _
        simp only [forallRel]
        refine ⟨rfl, ?_⟩
        go_simp
        exact ⟨Below.refl _ _, Hne.out⟩
      refine wpX_end rfl ?_
      rintro w2 hw2 v33 h33
      simp only [forallRel]
      have hbel2 := hbel.trans (hw2.mono (Nat.le_of_lt hblk.lt))
      have hown2 := hown.kept hw2
      cases hok : joinOk l with
      | true =>
        simp only [hok, Bool.not_true]
        have H1 := Lib.hid (join_yes hok)
        clear hok
        go_wp2
        go_ret2
        exact ⟨_, by rw [H1.out.1]; rfl, by rw [H1.out.2]; exact hown2, hbel2⟩
      | false =>
        simp only [hok, Bool.not_false]
        have H1 := Lib.hid (join_no hok)
        clear hok
        go_wp2
        go_ret2
        exact ⟨_, by rw [H1.out.1]; rfl, by rw [H1.out.2]; exact OwnOf.nil _ _ _ _ _, hbel2⟩
end Go.Proofs.Ytljbbpcnoajfeaa
