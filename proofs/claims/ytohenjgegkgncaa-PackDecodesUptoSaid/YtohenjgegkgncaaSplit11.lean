/- The reference's pread. -/
import Derived.Test.YtohenjgegkgncaaSplit1
import Derived.Test.YtohenjgegkgncaaPack3
import Derived.Test.YtohenjgegkgncaaAppT
set_option linter.unusedSimpArgs false
set_option linter.unusedVariables false
namespace Go.Proofs.Ytohenjgegkgncaa
open Go.RowKit
theorem Blk.range0 {e : TypeId} {w : World} {g : Nat} {cs : List Value} (h : Blk e w g cs) : w.rangeAt g 0 cs := fun j v hv => by rw [Nat.zero_add, h.cell, hv]
/-- where the first item's head ends, where it ends, is it a list? -/
def prdB : List UInt8 → Option (Nat × Nat × Bool)
  | [] => none
  | c :: r =>
    if c.toNat < 128 then some (0, 1, false)
    else match hdr c.toNat (if c.toNat < 192 then 128 else 192) r with
      | none => none
      | some (k, r') => if r'.length < k ∨ (c.toNat < 192 ∧ own1 k r' = true) then none else some (1 + (r.length - r'.length), 1 + (r.length - r'.length) + k, decide (192 ≤ c.toNat))
def PreadPost (o : Option (Nat × Nat × Bool)) (w : World) (e : Ending) (w' : World) : Prop :=
  Below w.heap.size w w' ∧ match o with
  | none => e = .returned (.tuple #[.int .i64 0, .int .i64 0, .bool false, .bool false])
  | some (f, t, l) => e = .returned (.tuple #[.int .i64 (f : Int), .int .i64 (t : Int), .bool l, .bool true])
theorem ret4 {P : Program} {fn : Func} {R : Ending → World → Prop} {a : Act} {w : World} {v : Value} (hr : (results fn a.tmps).run P w = .ok v w) (hd : a.defers = []) (hR : R (.returned v) w) : bodyPost P fn R .ret a w := bodyPost_ret hr hd hR

set_option maxHeartbeats 1000000 in
set_option maxRecDepth 100000 in
theorem pread_low (a : Option Addr) (L c : Nat) (b : List UInt8) (hL : b.length = L) (h128 : ∀ x r, b = x :: r → x.toNat < 128) (w : World) (h : Bytes w (.slice a L c) b) : Calls Try.prog 73 #[.slice a L c] w (PreadPost (prdB b) w) := by
  cases b with
  | nil =>
    obtain rfl : L = 0 := hL.symm
    unfold prdB
    go_enter Try.func73, Try.ntmps73
    go_wp2
    refine ret4 (v := .tuple #[.int .i64 0, .int .i64 0, .bool false, .bool false]) (by simp [results, Try.results73, go_sem]) rfl ⟨Below.refl _ _, rfl⟩
  | cons x r =>
    have hx := h128 x r rfl
    have hp : prdB (x :: r) = some (0, 1, false) := by simp [prdB, hx]
    rw [hp]
    obtain ⟨q, off, rfl, hc⟩ := h.at 0 (by simp)
    simp only [List.getElem_cons_zero, Nat.add_zero] at hc
    have hpos : (0 : Int) < (L : Int) := by simp at hL; omega
    have hne : ((L : Int) == 0) = false := by rw [beq_eq_false_iff_ne]; omega
    have hw : IntKind.i64.wrap (x.toNat : Int) = (x.toNat : Int) := IntWalk.i64_in _ (by omega)
    have hxi : (x.toNat : Int) < 128 := by omega
    have hxd : decide ((x.toNat : Int) < 128) = true := by rw [decide_eq_true_eq]; exact hxi
    clear hL hp h h128
    go_enter Try.func73, Try.ntmps73
    go_wp2
    refine ret4 (v := .tuple #[.int .i64 0, .int .i64 1, .bool false, .bool true]) (by simp [results, Try.results73, go_sem]) rfl ⟨Below.refl _ _, rfl⟩
set_option maxHeartbeats 2000000 in
set_option maxRecDepth 100000 in
theorem pread_small (a : Option Addr) (L c : Nat) (x : UInt8) (r : List UInt8) (hL : (x :: r).length = L) (hLs : L ≤ 1048576) (h128 : 128 ≤ x.toNat) (base n : Nat) (lst : Bool) (hbase : base = if x.toNat < 192 then 128 else 192) (hlst : lst = decide (192 ≤ x.toNat)) (hn : n = x.toNat - base) (hn48 : n < 48) (w : World) (h : Bytes w (.slice a L c) (x :: r)) : Calls Try.prog 73 #[.slice a L c] w (PreadPost (prdB (x :: r)) w) := by
  have hxlt := x.toNat_lt
  have hn64 : n < 64 ∧ (x.toNat - 128) % 64 = n := by
    rw [hn, hbase]; split <;> omega
  obtain ⟨q, off, rfl, hc⟩ := h.at 0 (by simp)
  simp only [List.getElem_cons_zero, Nat.add_zero] at hc
  have hpos : (0 : Int) < (L : Int) := by simp at hL; omega
  have hposn : 0 < L := by omega
  have hne : ((L : Int) == 0) = false := by rw [beq_eq_false_iff_ne]; omega
  have hw : IntKind.i64.wrap (x.toNat : Int) = (x.toNat : Int) := IntWalk.i64_in _ (by omega)
  have hxi : ¬ (x.toNat : Int) < 128 := by omega
  have hxd : decide ((x.toNat : Int) < 128) = false := by rw [decide_eq_false_iff_not]; exact hxi
  have hld : decide ((192 : Int) ≤ (x.toNat : Int)) = lst := by rw [hlst]; by_cases h192 : 192 ≤ x.toNat <;> simp [h192] <;> omega
  obtain ⟨m, hm⟩ : ∃ m, m = x.toNat - 128 := ⟨_, rfl⟩
  have hsub : IntKind.i64.wrap ((x.toNat : Int) - 128) = (m : Int) := by rw [show (x.toNat : Int) - 128 = (m : Int) from by omega]; exact IntWalk.i64_in _ (by omega)
  have hsub' : (x.toNat : Int) - 128 = (m : Int) := by omega
  have hrem : (m : Int) % 64 = (n : Int) := by omega
  have hrem' : Int.tmod (m : Int) 64 = (n : Int) := by rw [Int.tmod_eq_emod_of_nonneg (by omega)]; exact hrem
  have hp : prdB (x :: r) = match hdr x.toNat base r with
      | none => none
      | some (k, r') => if r'.length < k ∨ (lst = false ∧ own1 k r' = true) then none else some (1 + (r.length - r'.length), 1 + (r.length - r'.length) + k, lst) := by
    rw [prdB, if_neg (by omega), ← hbase, hlst]
    cases hdr x.toNat base r with
    | none => rfl
    | some kr =>
      obtain ⟨k, r'⟩ := kr
      simp only [decide_eq_false_iff_not, Nat.not_le]
  rw [hp]
  have hrl : r.length = L - 1 := by rw [← hL]; simp
  have hb48 : base ≤ x.toNat := by rw [hbase]; split <;> omega
  have hh : hdr x.toNat base r = some (n, r) := by unfold hdr; rw [if_pos (by omega), hn]
  rw [hh]
  dsimp only
  obtain ⟨M, hM⟩ : ∃ M, M = L - 1 := ⟨_, rfl⟩
  have hrM : r.length = M := by omega
  obtain ⟨to, hto⟩ : ∃ to, to = 1 + n := ⟨_, rfl⟩
  rw [hrM, Nat.sub_self, Nat.add_zero, ← hto]
  have w1 : IntKind.i64.wrap ((L : Int) - 1) = (M : Int) := by rw [show (L : Int) - 1 = (M : Int) from by omega]; exact IntWalk.i64_in _ (by omega)
  have w2 : IntKind.i64.wrap (1 + (n : Int)) = (to : Int) := by rw [show 1 + (n : Int) = (to : Int) from by omega]; exact IntWalk.i64_in _ (by omega)
  have w1' : (L : Int) - 1 = (M : Int) := by omega
  have w2' : 1 + (n : Int) = (to : Int) := by omega
  have d48 : decide ((48 : Int) ≤ (n : Int)) = false := by rw [decide_eq_false_iff_not]; omega
  have d48n : ¬ (48 : Int) ≤ (n : Int) := by omega
  have hr1 : ∀ (y : UInt8) (t : List UInt8), r = y :: t → (1 : Int) < (L : Int) ∧ 1 < L ∧ w.cell? ⟨q, off + 1, none⟩ = some (.int .u8 (y.toNat : Int)) := by
    intro y t e
    subst e
    obtain ⟨b', off', e1, e2⟩ := h.at 1 (by simp)
    simp only [Option.some.injEq, Addr.mk.injEq, and_true] at e1
    obtain ⟨rfl, rfl⟩ := e1
    simp at hrM
    exact ⟨by omega, by omega, by simpa using e2⟩
  have hn63 : (n : Int) < 64 := by omega
  clear hp hh hlst hn hn64 hm hM hto hL hrl hb48
  by_cases hbig : M < n
  · rw [if_pos (.inl hbig)]
    have g1 : decide ((M : Int) < (n : Int)) = true := by rw [decide_eq_true_eq]; omega
    have g2 : decide (M < n) = true := by rw [decide_eq_true_eq]; omega
    have HrM := Lib.hid hrM
    clear hrM hr1 h hbase
    go_enter Try.func73, Try.ntmps73
    go_wp2
    refine ret4 (v := .tuple #[.int .i64 0, .int .i64 0, .bool false, .bool false]) (by simp [results, Try.results73, go_sem]) rfl ⟨Below.refl _ _, rfl⟩
  · have g1 : decide ((M : Int) < (n : Int)) = false := by rw [decide_eq_false_iff_not]; omega
    have g2 : decide (M < n) = false := by rw [decide_eq_false_iff_not]; omega
    cases lst with
    | true =>
      rw [if_neg (by rintro (hh | ⟨hh, _⟩); exact hbig hh; cases hh)]
      have HrM := Lib.hid hrM
      clear hrM hr1 h hbase
      go_enter Try.func73, Try.ntmps73
      go_wp2
      refine ret4 (v := .tuple #[.int .i64 1, .int .i64 ((to : Nat) : Int), .bool true, .bool true]) (by simp [results, Try.results73, go_sem]) rfl ⟨Below.refl _ _, rfl⟩
    | false =>
      by_cases h1 : n = 1
      · have g3 : ((n : Int) == 1) = true := by rw [h1]; rfl
        obtain ⟨y, t, ht⟩ : ∃ y t, r = y :: t := by
          cases hr' : r with
          | nil => rw [hr'] at hrM; simp at hrM; omega
          | cons y t => exact ⟨y, t, rfl⟩
        have hown : own1 n r = decide (y.toNat < 128) := by unfold own1; rw [ht, h1]; simp
        rw [hown]
        obtain ⟨hfi, hfn, hcy⟩ : (1 : Int) < (L : Int) ∧ 1 < L ∧ w.cell? ⟨q, off + 1, none⟩ = some (.int .u8 (y.toNat : Int)) := hr1 y t ht
        by_cases hy : y.toNat < 128
        · rw [if_pos (.inr ⟨rfl, decide_eq_true hy⟩)]
          have hyi : (y.toNat : Int) < 128 := by omega
          have hyd : decide ((y.toNat : Int) < 128) = true := by rw [decide_eq_true_eq]; exact hyi
          clear hown ht h1
          have HrM := Lib.hid hrM
          clear hrM hr1 h hbase
          go_enter Try.func73, Try.ntmps73
          go_wp2
          refine ret4 (v := .tuple #[.int .i64 0, .int .i64 0, .bool false, .bool false]) (by simp [results, Try.results73, go_sem]) rfl ⟨Below.refl _ _, rfl⟩
        · rw [if_neg (by rintro (hh | ⟨_, hh⟩); exact hbig hh; exact hy (of_decide_eq_true hh))]
          have hyi : ¬ (y.toNat : Int) < 128 := by omega
          have hyd : decide ((y.toNat : Int) < 128) = false := by rw [decide_eq_false_iff_not]; exact hyi
          clear hown ht h1
          have HrM := Lib.hid hrM
          clear hrM hr1 h hbase
          go_enter Try.func73, Try.ntmps73
          go_wp2
          refine ret4 (v := .tuple #[.int .i64 1, .int .i64 ((to : Nat) : Int), .bool false, .bool true]) (by simp [results, Try.results73, go_sem]) rfl ⟨Below.refl _ _, rfl⟩
      · have g3 : ((n : Int) == 1) = false := by rw [beq_eq_false_iff_ne]; omega
        rw [if_neg (by rintro (hh | ⟨_, hh⟩); exact hbig hh; unfold own1 at hh; simp at hh; exact h1 hh.1)]
        have HrM := Lib.hid hrM
        clear hrM hr1 h hbase
        go_enter Try.func73, Try.ntmps73
        go_wp2
        refine ret4 (v := .tuple #[.int .i64 1, .int .i64 ((to : Nat) : Int), .bool false, .bool true]) (by simp [results, Try.results73, go_sem]) rfl ⟨Below.refl _ _, rfl⟩
set_option maxHeartbeats 2000000 in
set_option maxRecDepth 100000 in
theorem pread_big (a : Option Addr) (L c : Nat) (x : UInt8) (r : List UInt8) (hL : (x :: r).length = L) (hLs : L ≤ 1048576) (h128 : 128 ≤ x.toNat) (base n : Nat) (lst : Bool) (hbase : base = if x.toNat < 192 then 128 else 192) (hlst : lst = decide (192 ≤ x.toNat)) (hn : n = x.toNat - base) (hn48 : 48 ≤ n) (w : World) (h : Bytes w (.slice a L c) (x :: r)) : Calls Try.prog 73 #[.slice a L c] w (PreadPost (prdB (x :: r)) w) := by
  have hxlt := x.toNat_lt
  have hn64 : n < 64 ∧ (x.toNat - 128) % 64 = n := by
    rw [hn, hbase]; split <;> omega
  obtain ⟨q, off, rfl, hc⟩ := h.at 0 (by simp)
  simp only [List.getElem_cons_zero, Nat.add_zero] at hc
  have hpos : (0 : Int) < (L : Int) := by simp at hL; omega
  have hposn : 0 < L := by omega
  have hne : ((L : Int) == 0) = false := by rw [beq_eq_false_iff_ne]; omega
  have hw : IntKind.i64.wrap (x.toNat : Int) = (x.toNat : Int) := IntWalk.i64_in _ (by omega)
  have hxi : ¬ (x.toNat : Int) < 128 := by omega
  have hxd : decide ((x.toNat : Int) < 128) = false := by rw [decide_eq_false_iff_not]; exact hxi
  have hld : decide ((192 : Int) ≤ (x.toNat : Int)) = lst := by rw [hlst]; by_cases h192 : 192 ≤ x.toNat <;> simp [h192] <;> omega
  obtain ⟨m, hm⟩ : ∃ m, m = x.toNat - 128 := ⟨_, rfl⟩
  have hsub : IntKind.i64.wrap ((x.toNat : Int) - 128) = (m : Int) := by rw [show (x.toNat : Int) - 128 = (m : Int) from by omega]; exact IntWalk.i64_in _ (by omega)
  have hsub' : (x.toNat : Int) - 128 = (m : Int) := by omega
  have hrem : (m : Int) % 64 = (n : Int) := by omega
  have hrem' : Int.tmod (m : Int) 64 = (n : Int) := by rw [Int.tmod_eq_emod_of_nonneg (by omega)]; exact hrem
  have hp : prdB (x :: r) = match hdr x.toNat base r with
      | none => none
      | some (k, r') => if r'.length < k ∨ (lst = false ∧ own1 k r' = true) then none else some (1 + (r.length - r'.length), 1 + (r.length - r'.length) + k, lst) := by
    rw [prdB, if_neg (by omega), ← hbase, hlst]
    cases hdr x.toNat base r with
    | none => rfl
    | some kr =>
      obtain ⟨k, r'⟩ := kr
      simp only [decide_eq_false_iff_not, Nat.not_le]
  rw [hp]
  have hrl : r.length = L - 1 := by rw [← hL]; simp
  have hb48 : base ≤ x.toNat := by rw [hbase]; split <;> omega
  obtain ⟨k, hk⟩ : ∃ k, k = n - 47 := ⟨_, rfl⟩
  have hkk : x.toNat - base - 48 + 1 = k := by omega
  have d48 : decide ((48 : Int) ≤ (n : Int)) = true := by rw [decide_eq_true_eq]; omega
  have d48n : (48 : Int) ≤ (n : Int) := by omega
  have hk16 : k ≤ 16 ∧ 1 ≤ k := by omega
  have wk : IntKind.i64.wrap ((n : Int) - 47) = (k : Int) := by rw [show (n : Int) - 47 = (k : Int) from by omega]; exact IntWalk.i64_in _ (by omega)
  have wk' : (n : Int) - 47 = (k : Int) := by omega
  have hhd : hdr x.toNat base r = if r.length < k then none else if (r.take k).head? = some 0 ∨ 8 < k then none else if numL (r.take k) < 48 then none else some (numL (r.take k), r.drop k) := by
    unfold hdr
    rw [if_neg (by omega), hkk]
  have hn63 : (n : Int) < 64 := by omega
  by_cases h8 : 8 < k
  · have hh : hdr x.toNat base r = none := by rw [hhd]; split; rfl; rw [if_pos (.inr h8)]
    rw [hh]
    have d8 : decide ((8 : Int) < (k : Int)) = true := by rw [decide_eq_true_eq]; omega
    have d8i : (8 : Int) < (k : Int) := by omega
    clear hp hh hhd hlst hn hn64 hm hL hrl hb48 hkk hk hbase
    go_enter Try.func73, Try.ntmps73
    go_wp2
    refine ret4 (v := .tuple #[.int .i64 0, .int .i64 0, .bool false, .bool false]) (by simp [results, Try.results73, go_sem]) rfl ⟨Below.refl _ _, rfl⟩
  · have d8 : decide ((8 : Int) < (k : Int)) = false := by rw [decide_eq_false_iff_not]; omega
    have d8i : ¬ (8 : Int) < (k : Int) := by omega
    obtain ⟨f, hf⟩ : ∃ f, f = 1 + k := ⟨_, rfl⟩
    have wf : IntKind.i64.wrap (1 + (k : Int)) = (f : Int) := by rw [show 1 + (k : Int) = (f : Int) from by omega]; exact IntWalk.i64_in _ (by omega)
    have wf' : 1 + (k : Int) = (f : Int) := by omega
    by_cases hsh : L < f
    · have hh : hdr x.toNat base r = none := by rw [hhd, if_pos (by omega)]
      rw [hh]
      have ds : decide ((L : Int) < (f : Int)) = true := by rw [decide_eq_true_eq]; omega
      have ds' : decide (L < f) = true := by rw [decide_eq_true_eq]; omega
      clear hp hh hhd hlst hn hn64 hm hL hrl hb48 hkk hk hbase hf
      go_enter Try.func73, Try.ntmps73
      go_wp2
      refine ret4 (v := .tuple #[.int .i64 0, .int .i64 0, .bool false, .bool false]) (by simp [results, Try.results73, go_sem]) rfl ⟨Below.refl _ _, rfl⟩
    · have ds : decide ((L : Int) < (f : Int)) = false := by rw [decide_eq_false_iff_not]; omega
      have ds' : decide (L < f) = false := by rw [decide_eq_false_iff_not]; omega
      have hl : ((x :: r).take f).drop 1 = r.take k := by rw [hf, Nat.add_comm, List.take_succ_cons, List.drop_succ_cons, List.drop_zero]
      have h' := h
      rw [← hL] at h'
      obtain ⟨a1, c1, q1, r1⟩ := h'.between elU8 1 f (by omega) (by omega) 1 (f : Int) rfl rfl
      rw [hL] at q1
      rw [hl, show f - 1 = k from by omega] at r1
      rw [show f - 1 = k from by omega] at q1
      have hlk : (r.take k).length = k := by rw [List.length_take]; omega
      have pt := fun (u : World) (hb : Bytes u (.slice a1 (r.take k).length c1) (r.take k)) => ptonum_any a1 c1 (r.take k) u hb
      rw [hlk] at pt
      have hwL : IntKind.u64.wrap (L : Int) = (L : Int) := IntWalk.u64_in _ (by omega)
      obtain ⟨l, hll⟩ : ∃ l, l = r.take k := ⟨_, rfl⟩
      rw [← hll] at pt hlk r1 hhd
      have hlrow : Hid (Bytes w (.slice a1 k c1) l) := Lib.hid r1
      have Hlk := Lib.hid hlk
      have hfL : ¬ r.length < k := by omega
      rw [if_neg hfL] at hhd
      clear r1 hl h' hll
      by_cases hz : l.head? = some 0
      · have hh : hdr x.toNat base r = none := by rw [hhd, if_pos (.inl hz)]
        rw [hh]
        have hnok : okNum l = false := by unfold okNum; rw [hz]; simp
        rw [(num_no hnok).1, (num_no hnok).2] at pt
        obtain ⟨V, hV⟩ : ∃ V, V = 0 := ⟨_, rfl⟩
        have HV0 := Lib.hid (show lim V 0 = V from by rw [hV]; rfl)
        rw [← hV] at pt
        have Pt := Lib.hid pt
        clear hp hh hhd hlst hn hn64 hm hL hrl hb48 hkk hk hbase hf pt hlk hz hnok hV
        go_enter Try.func73, Try.ntmps73
        go_wp2_with (first
          | (go_at_call 125; (with_reducible refine (Pt.out _ (hlrow.out)).mono ?_); rintro e w2 ⟨rfl, b2⟩)
          | ((with_reducible show wpList _ _ _ (⟨none, Op.store _ _ (Operand.tmp 44), _, _, _, _⟩ :: _) _ _); refine wpList_storeA (o := ⟨none, _, _, _, _, _⟩) (by rfl) 73 (.tmp 9) (.tmp 44) (by rfl) w2.heap.size (wcs V) (by rfl) (by rfl) aggWord (Blk.new w2 73 z4) (wcs_len _) (by rfl) (wcs_one _) (Below.alloc (Below.refl w2.heap.size w2) (Nat.le_refl _) _) (Nat.le_refl _) ?_; intro w3 hh3 b3 _; have hV0 := hh3.wat 0 (by omega); rw [HV0.out] at hV0; have b23 := Below.then b2 b3; have hq := hh3.range0))
        refine ret4 (v := .tuple #[.int .i64 0, .int .i64 0, .bool false, .bool false]) (by simp [results, Try.results73, go_sem]) rfl ⟨b23, rfl⟩
      · have hok : okNum l = true := by unfold okNum; simp [hlk, hz]; omega
        have hN64 := numL_lt8 l (by rw [hlk]; omega)
        have hlast : last32 l = l := last_small l (by rw [hlk]; omega)
        rw [(num_yes hok).1, (num_yes hok).2, hlast] at pt
        have hpn : numB (numL l) = l := by have := num_same l; rw [hok, hlast] at this; simpa using this
        rw [if_neg (by rintro (hh | hh); exact hz hh; exact h8 hh)] at hhd
        obtain ⟨V, hV⟩ : ∃ V, V = numL l := ⟨_, rfl⟩
        rw [← hV] at pt hN64 hpn hhd
        have pn : ∀ u : World, Calls Try.prog 90 #[.agg (wcs V).toArray] u _ := fun u => pnum_any V u
        rw [hpn] at pn
        have HV0 := Lib.hid (show lim V 0 = V from by unfold lim; simp; omega)
        have Pt := Lib.hid pt
        have Pn := Lib.hid pn
        clear pt pn hpn hok hlast hV hz
        by_cases hv48 : V < 48
        · have hh : hdr x.toNat base r = none := by rw [hhd, if_pos hv48]
          rw [hh]
          have dv : decide ((V : Int) < 48) = true := by rw [decide_eq_true_eq]; omega
          have dvi : (V : Int) < 48 := by omega
          clear hp hh hhd hlst hn hn64 hm hL hrl hb48 hkk hk hbase hf hlk
          go_enter Try.func73, Try.ntmps73
          go_wp2_with (first
            | (go_at_call 125; (with_reducible refine (Pt.out _ (hlrow.out)).mono ?_); rintro e w2 ⟨rfl, b2⟩)
            | ((with_reducible show wpList _ _ _ (⟨none, Op.store _ _ (Operand.tmp 44), _, _, _, _⟩ :: _) _ _); refine wpList_storeA (o := ⟨none, _, _, _, _, _⟩) (by rfl) 73 (.tmp 9) (.tmp 44) (by rfl) w2.heap.size (wcs V) (by rfl) (by rfl) aggWord (Blk.new w2 73 z4) (wcs_len _) (by rfl) (wcs_one _) (Below.alloc (Below.refl w2.heap.size w2) (Nat.le_refl _) _) (Nat.le_refl _) ?_; intro w3 hh3 b3 _; have hV0 := hh3.wat 0 (by omega); rw [HV0.out] at hV0; have b23 := Below.then b2 b3; have hq := hh3.range0))
          refine ret4 (v := .tuple #[.int .i64 0, .int .i64 0, .bool false, .bool false]) (by simp [results, Try.results73, go_sem]) rfl ⟨b23, rfl⟩
        · rw [if_neg hv48] at hhd
          rw [hhd]
          dsimp only
          have dv : decide ((V : Int) < 48) = false := by rw [decide_eq_false_iff_not]; omega
          have dvi : ¬ (V : Int) < 48 := by omega
          by_cases hLV : L < V
          · rw [if_pos (.inl (by rw [List.length_drop]; omega))]
            have dl : decide ((L : Int) < (V : Int)) = true := by rw [decide_eq_true_eq]; omega
            have dl' : decide (L < V) = true := by rw [decide_eq_true_eq]; omega
            clear hp hhd hlst hn hn64 hm hL hrl hb48 hkk hk hbase hf hlk
            go_enter Try.func73, Try.ntmps73
            go_wp2_with (first
              | (go_at_call 125; (with_reducible refine (Pt.out _ (hlrow.out)).mono ?_); rintro e w2 ⟨rfl, b2⟩)
              | ((with_reducible show wpList _ _ _ (⟨none, Op.store _ _ (Operand.tmp 44), _, _, _, _⟩ :: _) _ _); refine wpList_storeA (o := ⟨none, _, _, _, _, _⟩) (by rfl) 73 (.tmp 9) (.tmp 44) (by rfl) w2.heap.size (wcs V) (by rfl) (by rfl) aggWord (Blk.new w2 73 z4) (wcs_len _) (by rfl) (wcs_one _) (Below.alloc (Below.refl w2.heap.size w2) (Nat.le_refl _) _) (Nat.le_refl _) ?_; intro w3 hh3 b3 _; have hV0 := hh3.wat 0 (by omega); rw [HV0.out] at hV0; have b23 := Below.then b2 b3; have hq := hh3.range0))
            refine ret4 (v := .tuple #[.int .i64 0, .int .i64 0, .bool false, .bool false]) (by simp [results, Try.results73, go_sem]) rfl ⟨b23, rfl⟩
          · have dl : decide ((L : Int) < (V : Int)) = false := by rw [decide_eq_false_iff_not]; omega
            have dl' : decide (L < V) = false := by rw [decide_eq_false_iff_not]; omega
            have hwV : IntKind.i64.wrap (V : Int) = (V : Int) := IntWalk.i64_in _ (by omega)
            obtain ⟨M, hM⟩ : ∃ M, M = L - f := ⟨_, rfl⟩
            have hrM : (r.drop k).length = M := by rw [List.length_drop]; omega
            obtain ⟨to, hto⟩ : ∃ to, to = f + V := ⟨_, rfl⟩
            have e1 : 1 + (r.length - (r.drop k).length) = f := by rw [List.length_drop]; omega
            rw [e1, hrM, ← hto]
            have w1 : IntKind.i64.wrap ((L : Int) - (f : Int)) = (M : Int) := by rw [show (L : Int) - (f : Int) = (M : Int) from by omega]; exact IntWalk.i64_in _ (by omega)
            have w2 : IntKind.i64.wrap ((f : Int) + (V : Int)) = (to : Int) := by rw [show (f : Int) + (V : Int) = (to : Int) from by omega]; exact IntWalk.i64_in _ (by omega)
            have w1' : (L : Int) - (f : Int) = (M : Int) := by omega
            have w2' : (f : Int) + (V : Int) = (to : Int) := by omega
            have hr1 : ∀ (y : UInt8) (t : List UInt8), r.drop k = y :: t → (f : Int) < (L : Int) ∧ f < L ∧ w.cell? ⟨q, off + f, none⟩ = some (.int .u8 (y.toNat : Int)) := by
              intro y t e
              have hy := congrArg (fun z => z[0]?) e
              simp only [List.getElem?_drop, Nat.add_zero, List.getElem?_cons_zero] at hy
              have hy1 := (List.getElem?_eq_some_iff.1 hy).1
              obtain ⟨b', off', e1, e2⟩ := h.at f (by simp; omega)
              simp only [Option.some.injEq, Addr.mk.injEq, and_true] at e1
              obtain ⟨rfl, rfl⟩ := e1
              have e3 : (x :: r)[f]? = some y := by rw [hf, Nat.add_comm, List.getElem?_cons_succ]; exact hy
              rw [List.getElem?_eq_getElem (by simp; omega)] at e3
              rw [Option.some.inj e3] at e2
              exact ⟨by omega, by omega, e2⟩
            obtain ⟨r', hr'⟩ : ∃ r', r' = r.drop k := ⟨_, rfl⟩
            rw [← hr'] at hrM hr1
            rw [← hr']
            clear hp hhd hlst hn hn64 hm hM hto hL hrl hb48 hkk hk hf hlk e1 hfL hr'
            by_cases hbig : M < V
            · rw [if_pos (.inl hbig)]
              have g1 : decide ((M : Int) < (V : Int)) = true := by rw [decide_eq_true_eq]; omega
              have g2 : decide (M < V) = true := by rw [decide_eq_true_eq]; omega
              have HrM := Lib.hid hrM
              have hcyw : Hid (∀ u : World, Below w.heap.size w u → True) := Lib.hid (fun _ _ => trivial)
              clear hrM hr1 h hbase
              go_enter Try.func73, Try.ntmps73
              go_wp2_with (first
                | (go_at_call 125; (with_reducible refine (Pt.out _ (hlrow.out)).mono ?_); rintro e w2 ⟨rfl, b2⟩)
                | ((with_reducible show wpList _ _ _ (⟨none, Op.store _ _ (Operand.tmp 44), _, _, _, _⟩ :: _) _ _); refine wpList_storeA (o := ⟨none, _, _, _, _, _⟩) (by rfl) 73 (.tmp 9) (.tmp 44) (by rfl) w2.heap.size (wcs V) (by rfl) (by rfl) aggWord (Blk.new w2 73 z4) (wcs_len _) (by rfl) (wcs_one _) (Below.alloc (Below.refl w2.heap.size w2) (Nat.le_refl _) _) (Nat.le_refl _) ?_; intro w3 hh3 b3 _; have hV0 := hh3.wat 0 (by omega); rw [HV0.out] at hV0; have b23 := Below.then b2 b3; have hq := hh3.range0)
                | (refine wpList_loadW (o := ⟨some 62, _, _, _, _, _⟩) 73 (.tmp 9) (by rfl) w2.heap.size 0 (by rfl) aggWord (wcs_len _) hq (by rfl) ?_)
                | (go_at_call 90; (with_reducible refine (Pn.out _).mono ?_); rintro e w4 ⟨v4, rfl, r4, b4⟩; obtain ⟨a4, c4, rfl, _⟩ := r4.form' k Hlk.out; have b24 := Below.then b23 b4; have hV4 := (hh3.kept b4).wat 0 (by omega); rw [HV0.out] at hV4; have hcy4 := hcyw.out w4 b24))
              refine ret4 (v := .tuple #[.int .i64 0, .int .i64 0, .bool false, .bool false]) (by simp [results, Try.results73, go_sem]) rfl ⟨b24, rfl⟩
            · have g1 : decide ((M : Int) < (V : Int)) = false := by rw [decide_eq_false_iff_not]; omega
              have g2 : decide (M < V) = false := by rw [decide_eq_false_iff_not]; omega
              cases lst with
              | true =>
                rw [if_neg (by rintro (hh | ⟨hh, _⟩); exact hbig hh; cases hh)]
                have HrM := Lib.hid hrM
                have hcyw : Hid (∀ u : World, Below w.heap.size w u → True) := Lib.hid (fun _ _ => trivial)
                clear hrM hr1 h hbase
                go_enter Try.func73, Try.ntmps73
                go_wp2_with (first
                  | (go_at_call 125; (with_reducible refine (Pt.out _ (hlrow.out)).mono ?_); rintro e w2 ⟨rfl, b2⟩)
                  | ((with_reducible show wpList _ _ _ (⟨none, Op.store _ _ (Operand.tmp 44), _, _, _, _⟩ :: _) _ _); refine wpList_storeA (o := ⟨none, _, _, _, _, _⟩) (by rfl) 73 (.tmp 9) (.tmp 44) (by rfl) w2.heap.size (wcs V) (by rfl) (by rfl) aggWord (Blk.new w2 73 z4) (wcs_len _) (by rfl) (wcs_one _) (Below.alloc (Below.refl w2.heap.size w2) (Nat.le_refl _) _) (Nat.le_refl _) ?_; intro w3 hh3 b3 _; have hV0 := hh3.wat 0 (by omega); rw [HV0.out] at hV0; have b23 := Below.then b2 b3; have hq := hh3.range0)
                  | (refine wpList_loadW (o := ⟨some 62, _, _, _, _, _⟩) 73 (.tmp 9) (by rfl) w2.heap.size 0 (by rfl) aggWord (wcs_len _) hq (by rfl) ?_)
                  | (go_at_call 90; (with_reducible refine (Pn.out _).mono ?_); rintro e w4 ⟨v4, rfl, r4, b4⟩; obtain ⟨a4, c4, rfl, _⟩ := r4.form' k Hlk.out; have b24 := Below.then b23 b4; have hV4 := (hh3.kept b4).wat 0 (by omega); rw [HV0.out] at hV4; have hcy4 := hcyw.out w4 b24))
                refine ret4 (v := .tuple #[.int .i64 f, .int .i64 ((to : Nat) : Int), .bool true, .bool true]) (by simp [results, Try.results73, go_sem]) rfl ⟨b24, rfl⟩
              | false =>
                by_cases h1 : V = 1
                · have g3 : ((V : Int) == 1) = true := by rw [h1]; rfl
                  obtain ⟨y, t, ht⟩ : ∃ y t, r' = y :: t := by
                    cases hr' : r' with
                    | nil => rw [hr'] at hrM; simp at hrM; omega
                    | cons y t => exact ⟨y, t, rfl⟩
                  have hown : own1 V r' = decide (y.toNat < 128) := by unfold own1; rw [ht, h1]; simp
                  rw [hown]
                  obtain ⟨hfi, hfn, hcy⟩ : (f : Int) < (L : Int) ∧ f < L ∧ w.cell? ⟨q, off + f, none⟩ = some (.int .u8 (y.toNat : Int)) := hr1 y t ht
                  by_cases hy : y.toNat < 128
                  · rw [if_pos (.inr ⟨rfl, decide_eq_true hy⟩)]
                    have hyi : (y.toNat : Int) < 128 := by omega
                    have hyd : decide ((y.toNat : Int) < 128) = true := by rw [decide_eq_true_eq]; exact hyi
                    clear hown ht h1
                    have HrM := Lib.hid hrM
                    have hcyw : Hid (∀ u : World, Below w.heap.size w u → u.cell? ⟨q, off + f, none⟩ = some (.int .u8 (y.toNat : Int))) := Lib.hid (fun u hb => by rw [hb.cell (World.block_lt_of_cell? w _ hcy)]; exact hcy)
                    clear hrM hr1 h hbase
                    go_enter Try.func73, Try.ntmps73
                    go_wp2_with (first
                      | (go_at_call 125; (with_reducible refine (Pt.out _ (hlrow.out)).mono ?_); rintro e w2 ⟨rfl, b2⟩)
                      | ((with_reducible show wpList _ _ _ (⟨none, Op.store _ _ (Operand.tmp 44), _, _, _, _⟩ :: _) _ _); refine wpList_storeA (o := ⟨none, _, _, _, _, _⟩) (by rfl) 73 (.tmp 9) (.tmp 44) (by rfl) w2.heap.size (wcs V) (by rfl) (by rfl) aggWord (Blk.new w2 73 z4) (wcs_len _) (by rfl) (wcs_one _) (Below.alloc (Below.refl w2.heap.size w2) (Nat.le_refl _) _) (Nat.le_refl _) ?_; intro w3 hh3 b3 _; have hV0 := hh3.wat 0 (by omega); rw [HV0.out] at hV0; have b23 := Below.then b2 b3; have hq := hh3.range0)
                      | (refine wpList_loadW (o := ⟨some 62, _, _, _, _, _⟩) 73 (.tmp 9) (by rfl) w2.heap.size 0 (by rfl) aggWord (wcs_len _) hq (by rfl) ?_)
                      | (go_at_call 90; (with_reducible refine (Pn.out _).mono ?_); rintro e w4 ⟨v4, rfl, r4, b4⟩; obtain ⟨a4, c4, rfl, _⟩ := r4.form' k Hlk.out; have b24 := Below.then b23 b4; have hV4 := (hh3.kept b4).wat 0 (by omega); rw [HV0.out] at hV4; have hcy4 := hcyw.out w4 b24))
                    refine ret4 (v := .tuple #[.int .i64 0, .int .i64 0, .bool false, .bool false]) (by simp [results, Try.results73, go_sem]) rfl ⟨b24, rfl⟩
                  · rw [if_neg (by rintro (hh | ⟨_, hh⟩); exact hbig hh; exact hy (of_decide_eq_true hh))]
                    have hyi : ¬ (y.toNat : Int) < 128 := by omega
                    have hyd : decide ((y.toNat : Int) < 128) = false := by rw [decide_eq_false_iff_not]; exact hyi
                    clear hown ht h1
                    have HrM := Lib.hid hrM
                    have hcyw : Hid (∀ u : World, Below w.heap.size w u → u.cell? ⟨q, off + f, none⟩ = some (.int .u8 (y.toNat : Int))) := Lib.hid (fun u hb => by rw [hb.cell (World.block_lt_of_cell? w _ hcy)]; exact hcy)
                    clear hrM hr1 h hbase
                    go_enter Try.func73, Try.ntmps73
                    go_wp2_with (first
                      | (go_at_call 125; (with_reducible refine (Pt.out _ (hlrow.out)).mono ?_); rintro e w2 ⟨rfl, b2⟩)
                      | ((with_reducible show wpList _ _ _ (⟨none, Op.store _ _ (Operand.tmp 44), _, _, _, _⟩ :: _) _ _); refine wpList_storeA (o := ⟨none, _, _, _, _, _⟩) (by rfl) 73 (.tmp 9) (.tmp 44) (by rfl) w2.heap.size (wcs V) (by rfl) (by rfl) aggWord (Blk.new w2 73 z4) (wcs_len _) (by rfl) (wcs_one _) (Below.alloc (Below.refl w2.heap.size w2) (Nat.le_refl _) _) (Nat.le_refl _) ?_; intro w3 hh3 b3 _; have hV0 := hh3.wat 0 (by omega); rw [HV0.out] at hV0; have b23 := Below.then b2 b3; have hq := hh3.range0)
                      | (refine wpList_loadW (o := ⟨some 62, _, _, _, _, _⟩) 73 (.tmp 9) (by rfl) w2.heap.size 0 (by rfl) aggWord (wcs_len _) hq (by rfl) ?_)
                      | (go_at_call 90; (with_reducible refine (Pn.out _).mono ?_); rintro e w4 ⟨v4, rfl, r4, b4⟩; obtain ⟨a4, c4, rfl, _⟩ := r4.form' k Hlk.out; have b24 := Below.then b23 b4; have hV4 := (hh3.kept b4).wat 0 (by omega); rw [HV0.out] at hV4; have hcy4 := hcyw.out w4 b24))
                    refine ret4 (v := .tuple #[.int .i64 f, .int .i64 ((to : Nat) : Int), .bool false, .bool true]) (by simp [results, Try.results73, go_sem]) rfl ⟨b24, rfl⟩
                · have g3 : ((V : Int) == 1) = false := by rw [beq_eq_false_iff_ne]; omega
                  rw [if_neg (by rintro (hh | ⟨_, hh⟩); exact hbig hh; unfold own1 at hh; simp at hh; exact h1 hh.1)]
                  have HrM := Lib.hid hrM
                  have hcyw : Hid (∀ u : World, Below w.heap.size w u → True) := Lib.hid (fun _ _ => trivial)
                  clear hrM hr1 h hbase
                  go_enter Try.func73, Try.ntmps73
                  go_wp2_with (first
                    | (go_at_call 125; (with_reducible refine (Pt.out _ (hlrow.out)).mono ?_); rintro e w2 ⟨rfl, b2⟩)
                    | ((with_reducible show wpList _ _ _ (⟨none, Op.store _ _ (Operand.tmp 44), _, _, _, _⟩ :: _) _ _); refine wpList_storeA (o := ⟨none, _, _, _, _, _⟩) (by rfl) 73 (.tmp 9) (.tmp 44) (by rfl) w2.heap.size (wcs V) (by rfl) (by rfl) aggWord (Blk.new w2 73 z4) (wcs_len _) (by rfl) (wcs_one _) (Below.alloc (Below.refl w2.heap.size w2) (Nat.le_refl _) _) (Nat.le_refl _) ?_; intro w3 hh3 b3 _; have hV0 := hh3.wat 0 (by omega); rw [HV0.out] at hV0; have b23 := Below.then b2 b3; have hq := hh3.range0)
                    | (refine wpList_loadW (o := ⟨some 62, _, _, _, _, _⟩) 73 (.tmp 9) (by rfl) w2.heap.size 0 (by rfl) aggWord (wcs_len _) hq (by rfl) ?_)
                    | (go_at_call 90; (with_reducible refine (Pn.out _).mono ?_); rintro e w4 ⟨v4, rfl, r4, b4⟩; obtain ⟨a4, c4, rfl, _⟩ := r4.form' k Hlk.out; have b24 := Below.then b23 b4; have hV4 := (hh3.kept b4).wat 0 (by omega); rw [HV0.out] at hV4; have hcy4 := hcyw.out w4 b24))
                  refine ret4 (v := .tuple #[.int .i64 f, .int .i64 ((to : Nat) : Int), .bool false, .bool true]) (by simp [results, Try.results73, go_sem]) rfl ⟨b24, rfl⟩
end Go.Proofs.Ytohenjgegkgncaa
