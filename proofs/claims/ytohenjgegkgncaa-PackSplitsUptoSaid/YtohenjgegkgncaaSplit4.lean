/- (*reader).length. -/
import Derived.Test.YtohenjgegkgncaaSplit3
import Derived.Test.YtohenjgegkgncaaArr
set_option linter.unusedSimpArgs false
set_option linter.unusedVariables false
namespace Go.Proofs.Ytohenjgegkgncaa
open Go.RowKit
/-- the least part of a word -/
theorem run_part0 (N : Nat) (w : World) : (Instr.index 73 (wv N) (.int .i64 0)).run Try.prog w = .ok (.int .u64 ((lim N 0 : Nat) : Int)) w := by
  show (Instr.index 73 (.agg (wcs N).toArray) (.int .i64 ((0 : Nat) : Int))).run Try.prog w = _
  refine run_index_agg (n := 4) (e := 52) (by kernel_rfl) (by kernel_rfl) _ 0 (by omega) w .i64 ?_
  have h1 := run_part_int (P := Try.prog) w (e := 52) (k := .u64) (by kernel_rfl) (limI N) 0 (by simp [limI])
  exact h1
def HdrPost (o : Option (Nat × List UInt8)) (v : Value) (r : List UInt8) (g : Nat) (w : World) (e : Ending) (w' : World) : Prop :=
  match o with
  | none => e = .panicked mis ∧ w.grownBy w' (some g)
  | some (k, r') => ∃ a' c', e = .returned (.int .u64 (k : Int)) ∧ SubB v r (.slice a' r'.length c') r' ∧ Blk 113 w' g [.slice a' r'.length c'] ∧ w.grownBy w' (some g)
set_option maxHeartbeats 400000 in
set_option maxRecDepth 100000 in
theorem length_small (c base : Nat) (hb : base ≤ 192) (h1 : base ≤ c) (h2 : c < base + 48) (g : Nat) (w : World) :
    Calls Try.prog 124 #[.pointer (some ⟨g, 0, none⟩), .int .u8 (c : Int), .int .u8 (base : Int)] w fun e w' => e = .returned (.int .u64 ((c - base : Nat) : Int)) ∧ w = w' := by
  have e1 : IntKind.u8.wrap ((base : Int) + 48) = (base : Int) + 48 := IntWalk.u8_in _ (by omega)
  have d1 : decide ((c : Int) < (base : Int) + 48) = true := by rw [decide_eq_true_eq]; omega
  have e2 : IntKind.u8.wrap ((c : Int) - (base : Int)) = ((c - base : Nat) : Int) := by rw [show (c : Int) - (base : Int) = ((c - base : Nat) : Int) from by omega]; exact IntWalk.u8_in _ (by omega)
  have e3 : IntKind.u64.wrap ((c - base : Nat) : Int) = ((c - base : Nat) : Int) := IntWalk.u64_in _ (by omega)
  obtain ⟨m, hm⟩ : ∃ m, m = c - base := ⟨_, rfl⟩
  rw [← hm] at e2 e3
  rw [← hm]
  clear hm
  go_enter Try.func124, Try.ntmps124
  go_wp2
  go_ret
  exact ⟨rfl, rfl⟩
set_option maxHeartbeats 1000000 in
set_option maxRecDepth 100000 in
theorem length_big (c base : Nat) (hb : base ≤ 192) (h2 : base + 48 ≤ c) (h256 : c < 256) (a : Option Addr) (cc L : Nat) (r : List UInt8) (hL : r.length = L) (hLm : L ≤ maxLen) (g : Nat) (w : World) (hB : Blk 113 w g [.slice a L cc]) (h : Bytes w (.slice a L cc) r) :
    Calls Try.prog 124 #[.pointer (some ⟨g, 0, none⟩), .int .u8 (c : Int), .int .u8 (base : Int)] w (HdrPost (hdr c base r) (.slice a L cc) r g w) := by
  obtain ⟨k, hk⟩ : ∃ k, k = c - base - 48 + 1 := ⟨_, rfl⟩
  have hk16 : k ≤ 256 := by omega
  have hk1 : 1 ≤ k := by omega
  have e1 : IntKind.u8.wrap ((base : Int) + 48) = (base : Int) + 48 := IntWalk.u8_in _ (by omega)
  have d1 : decide ((c : Int) < (base : Int) + 48) = false := by rw [decide_eq_false_iff_not]; omega
  obtain ⟨m, hm⟩ : ∃ m, m = c - base := ⟨_, rfl⟩
  obtain ⟨q, hq⟩ : ∃ q, q = m - 48 := ⟨_, rfl⟩
  have e2 : IntKind.u8.wrap ((c : Int) - (base : Int)) = (m : Int) := by rw [show (c : Int) - (base : Int) = (m : Int) from by omega]; exact IntWalk.u8_in _ (by omega)
  have e3 : IntKind.u8.wrap ((m : Int) - 48) = (q : Int) := by rw [show (m : Int) - 48 = (q : Int) from by omega]; exact IntWalk.u8_in _ (by omega)
  have e4 : IntKind.u64.wrap (q : Int) = (q : Int) := IntWalk.u64_in _ (by omega)
  have e5 : IntKind.u64.wrap ((q : Int) + 1) = (k : Int) := by rw [show (q : Int) + 1 = (k : Int) from by omega]; exact IntWalk.u64_in _ (by omega)
  have hH : hdr c base r = if L < k then none else if (r.take k).head? = some 0 ∨ 8 < k then none else if numL (r.take k) < 48 then none else some (numL (r.take k), r.drop k) := by
    unfold hdr
    rw [if_neg (by omega), hL, ← hk]
  rw [hH]
  clear hH hm hq hk
  by_cases hlk : L < k
  · have t1 := take_bad a cc L k hLm hlk g w hB
    rw [if_pos hlk]
    have T1 := Lib.hid t1
    clear t1 hL
    go_enter Try.func124, Try.ntmps124
    go_wp2_with (go_at_call 123; (with_reducible refine T1.out.mono ?_); rintro e w1 ⟨rfl, rfl⟩)
    exact ⟨rfl, rfl, World.grownBy.refl _ _⟩
  · rw [if_neg hlk]
    have hkL : k ≤ L := by omega
    have t1 := take_ok a cc L k r hL hLm hkL g w hB h
    have hlen : (r.take k).length = k := by rw [List.length_take]; omega
    have hoff : ∀ u, w.grownBy u (some g) → Bytes u (.slice a L cc) r := fun u hu => Bytes.off_r h hB ⟨_, _, _, rfl⟩ hu
    have hrl : (r.drop k).length = L - k := by rw [List.length_drop, hL]
    obtain ⟨l, hl⟩ : ∃ l, l = r.take k := ⟨_, rfl⟩
    obtain ⟨rest, hrest⟩ : ∃ rest, rest = r.drop k := ⟨_, rfl⟩
    rw [← hl, ← hrest] at t1
    rw [← hl] at hlen
    rw [← hrest] at hrl
    rw [← hl, ← hrest]
    clear hl hrest hL hB h
    cases l with
    | nil => simp at hlen; omega
    | cons x l =>
      simp only [List.head?_cons, Option.some.injEq]
      have T1 := Lib.hid t1
      have Hoff := Lib.hid hoff
      have Hrl := Lib.hid hrl
      have Hlen := Lib.hid hlen
      have hki : (0 : Int) < (k : Int) := by omega
      clear t1 hoff hrl hlen
      by_cases hbad : x = 0 ∨ 8 < k
      · rw [if_pos hbad]
        by_cases hx : x = 0
        · subst hx
          clear hbad
          have hz : (((0 : UInt8).toNat : Int) == 0) = true := rfl
          go_enter Try.func124, Try.ntmps124
          go_wp2_with (go_at_call 123; (with_reducible refine T1.out.mono ?_); rintro e w1 ⟨a1, c1, a2, c2, rfl, r1, r2, B1, g1⟩; obtain ⟨b, off, rfl, hc⟩ := Bytes.at (r1 w1 (Hoff.out w1 g1)) 0 (by simp); simp only [List.getElem_cons_zero, Nat.add_zero] at hc)
          exact ⟨rfl, rfl, g1⟩
        · have h8 : 8 < k := by rcases hbad with h | h; exact absurd h hx; exact h
          have hz := u8_nz x hx
          have h8i : (8 : Int) < (k : Int) := by omega
          have h8d : decide ((8 : Int) < (k : Int)) = true := by rw [decide_eq_true_eq]; exact h8i
          clear hbad
          go_enter Try.func124, Try.ntmps124
          go_wp2_with (go_at_call 123; (with_reducible refine T1.out.mono ?_); rintro e w1 ⟨a1, c1, a2, c2, rfl, r1, r2, B1, g1⟩; obtain ⟨b, off, rfl, hc⟩ := Bytes.at (r1 w1 (Hoff.out w1 g1)) 0 (by simp); simp only [List.getElem_cons_zero, Nat.add_zero] at hc)
          exact ⟨rfl, rfl, g1⟩
      · rw [if_neg hbad]
        have hx : x ≠ 0 := fun h => hbad (.inl h)
        have h8 : k ≤ 8 := by omega
        have hz := u8_nz x hx
        have h8i : ¬ (8 : Int) < (k : Int) := by omega
        have h8d : decide ((8 : Int) < (k : Int)) = false := by rw [decide_eq_false_iff_not]; exact h8i
        have hlast : last32 (x :: l) = x :: l := last_small _ (by rw [Hlen.out]; omega)
        have hN := numL_lt8 (x :: l) (by rw [Hlen.out]; exact h8)
        have hrd := fun (a1 : Option Addr) (c1 : Nat) (w1 : World) (h1 : Bytes w1 (.slice a1 (x :: l).length c1) (x :: l)) => read_any a1 c1 (x :: l) w1 h1
        rw [Hlen.out, hlast] at hrd
        obtain ⟨N, hNn⟩ : ∃ N, N = numL (x :: l) := ⟨_, rfl⟩
        rw [← hNn] at hrd hN
        rw [← hNn]
        have hidx := fun w => run_part0 N w
        have hlim : lim N 0 = N := by unfold lim; simp; omega
        rw [hlim] at hidx
        have Hrd := Lib.hid hrd
        clear hrd hlim hlast hNn hbad hx
        by_cases h48 : N < 48
        · rw [if_pos h48]
          have h48i : (N : Int) < 48 := by omega
          have h48d : decide ((N : Int) < 48) = true := by rw [decide_eq_true_eq]; exact h48i
          go_enter Try.func124, Try.ntmps124
          go_wp2_with (first
            | (go_at_call 123; (with_reducible refine T1.out.mono ?_); rintro e w1 ⟨a1, c1, a2, c2, rfl, r1, r2, B1, g1⟩; have hb1 := r1 w1 (Hoff.out w1 g1); obtain ⟨b, off, rfl, hc⟩ := Bytes.at hb1 0 (by simp); simp only [List.getElem_cons_zero, Nat.add_zero] at hc)
            | (go_at_call 151; (with_reducible refine (Hrd.out _ _ _ hb1).mono ?_); rintro e w2 ⟨rfl, b2⟩))
          exact ⟨rfl, rfl, grown_bel' g1 b2⟩
        · rw [if_neg h48]
          have h48i : ¬ (N : Int) < 48 := by omega
          have h48d : decide ((N : Int) < 48) = false := by rw [decide_eq_false_iff_not]; exact h48i
          go_enter Try.func124, Try.ntmps124
          go_wp2_with (first
            | (go_at_call 123; (with_reducible refine T1.out.mono ?_); rintro e w1 ⟨a1, c1, a2, c2, rfl, r1, r2, B1, g1⟩; have hb1 := r1 w1 (Hoff.out w1 g1); obtain ⟨b, off, rfl, hc⟩ := Bytes.at hb1 0 (by simp); simp only [List.getElem_cons_zero, Nat.add_zero] at hc)
            | (go_at_call 151; (with_reducible refine (Hrd.out _ _ _ hb1).mono ?_); rintro e w2 ⟨rfl, b2⟩))
          go_ret
          refine ⟨a2, c2, rfl, ?_, ?_, grown_bel' g1 b2⟩
          · rw [Hrl.out]; exact r2
          · rw [Hrl.out]; exact B1.kept b2
end Go.Proofs.Ytohenjgegkgncaa
