/- hex.ParseNumber. -/
import Derived.Test.YtgmdbleeagfhpaaHexN2
import Derived.Test.YtgmdbleeagfhpaaWord16
set_option linter.unusedSimpArgs false
set_option linter.unusedVariables false
namespace Go.Proofs.Ytgmdbleeagfhpaa
open Go.RowKit
def nOk (L : List UInt8) : Bool := okH L && decide (1 ≤ (halfR L).length ∧ (halfR L).length ≤ 64 ∧ ((halfR L).length = 1 ∨ (halfR L).head? ≠ some 0))
def nV (L : List UInt8) : Nat := if nOk L then valD (halfR L) else 0
def nE (L : List UInt8) : Int := if nOk L then 0 else 1
theorem n_no {L : List UInt8} (h : nOk L = false) : nV L = 0 ∧ nE L = 1 := by unfold nV nE; simp [h]
theorem n_yes {L : List UInt8} (h : nOk L = true) : nV L = valD (halfR L) ∧ nE L = 0 := by unfold nV nE; simp [h]
theorem halfR_small {L : List UInt8} (h : okH L = true) : ∀ x ∈ halfR L, x.toNat < 16 := by
  intro x hx
  rw [halfR_yes h] at hx
  obtain ⟨j, hj, rfl⟩ := List.getElem_of_mem hx
  have := okH_dg h j hj
  omega
theorem valD_take (l : List UInt8) (k : Nat) (hk : k < l.length) : valD (l.take (k + 1)) = 16 * valD (l.take k) + (l[k]).toNat := by
  rw [List.take_succ_eq_append_getElem hk, valD_snoc]
theorem valD_small (l : List UInt8) (h : ∀ x ∈ l, x.toNat < 16) (h64 : l.length ≤ 64) : valD l < W256 := by
  have h1 := valF_lt l h 0
  have h2 : (16 : Nat) ^ l.length ≤ 16 ^ 64 := Nat.pow_le_pow_right (by omega) h64
  have h3 : (16 : Nat) ^ 64 = W256 := by decide +kernel
  unfold valD
  omega
set_option maxHeartbeats 800000 in
set_option maxRecDepth 100000 in
theorem parseNumber_any (s : ByteArray) (hs : s.size ≤ 140737488351232) (w : World) :
    Calls Try.prog 49 #[.string s] w fun e w' => e = .returned (.tuple #[wv (nV s.data.toList), .int .i64 (nE s.data.toList)]) ∧ Below w.heap.size w w' := by
  obtain ⟨L, hL⟩ : ∃ L, L = s.data.toList := ⟨_, rfl⟩
  obtain ⟨w1, hw1⟩ : ∃ w1, w1 = w.alloc (.cells z4.toArray 24) := ⟨_, rfl⟩
  have hz1 : Blk 24 w1 w.heap.size z4 := by rw [hw1]; exact Blk.new w 24 z4
  have hbel1 : Below w.heap.size w w1 := by rw [hw1]; exact (Below.refl _ _).alloc (Nat.le_refl _) _
  have ch := fun w => hhalves_any s hs w
  rw [← hL] at ch ⊢
  obtain ⟨R, hR⟩ : ∃ R, R = halfR L := ⟨_, rfl⟩
  obtain ⟨n, hn⟩ : ∃ n, n = R.length := ⟨_, rfl⟩
  rw [← hR] at ch
  have cc : ∀ b, okH L = b → ∀ w, Calls Try.prog 102 #[.string s] w fun e w' => ∃ a c, e = .returned (.tuple #[.slice a n c, .bool b]) ∧ Bytes w' (.slice a n c) R ∧ Below w.heap.size w w' := by
    intro b hb w
    refine (ch w).mono ?_
    rintro e w' ⟨v, rfl, h1, h2⟩
    obtain ⟨a, c, rfl, _⟩ := h1.form' n hn.symm
    exact ⟨a, c, by rw [hb], h1.row, h2⟩
  have Hw1 := Lib.hid hw1
  have HR := Lib.hid hR
  have Hn := Lib.hid hn
  have bad : nOk L = false → ∀ b, okH L = b → (b = true → (n = 0 ∨ 64 < n ∨ (1 < n ∧ ∃ x t, R = x :: t ∧ x = 0))) → True := fun _ _ _ _ => trivial
  clear bad ch hw1
  cases hok : okH L with
  | false =>
    obtain ⟨e1, e2⟩ := n_no (L := L) (by unfold nOk; rw [hok]; rfl)
    rw [e1, e2]
    have Cc := Lib.hid (cc false hok)
    clear cc hok e1 e2 hR hn
    go_enter Try.func49, Try.ntmps49
    go_wp2_with (first
      | (rw [show w.alloc (.cells #[.int .u64 0, .int .u64 0, .int .u64 0, .int .u64 0] 24) = w1 from by rw [Hw1.out]; rfl])
      | (go_at_call 102; (with_reducible refine (Cc.out _).mono ?_); rintro e w2 ⟨a, c, rfl, h2, b2⟩; have hz2 := hz1.kept b2; have hbel2 := Below.then hbel1 b2)
      | (refine wpList_storeA (by rfl) 24 (.tmp 2) (.tmp 37) (by rfl) (w.heap.size) (wcs (0)) (by rfl) (by rfl) aggWord hz2 (wcs_len _) (by first | exact wcs_len _ | rfl) (wcs_one _) (Below.refl _ _) (Nat.le_refl _) ?_; intro w7 hb7 b7 g7; have hbel7 := hbel2.trans b7))
    exact bodyPost_ret (results_blk_tmp rfl _ _ w.heap.size aggWord hb7 (wcs_len _) rfl rfl) rfl ⟨rfl, hbel7⟩
  | true =>
    have Cc := Lib.hid (cc true hok)
    have hsm := halfR_small hok
    rw [← hR] at hsm
    clear cc
    by_cases hn0 : n = 0
    · obtain ⟨e1, e2⟩ := n_no (L := L) (by unfold nOk; rw [hok, ← hR, ← hn, hn0]; rfl)
      rw [e1, e2]
      clear hok e1 e2 hR hn hsm
      subst hn0
      go_enter Try.func49, Try.ntmps49
      go_wp2_with (first
        | (rw [show w.alloc (.cells #[.int .u64 0, .int .u64 0, .int .u64 0, .int .u64 0] 24) = w1 from by rw [Hw1.out]; rfl])
        | (go_at_call 102; (with_reducible refine (Cc.out _).mono ?_); rintro e w2 ⟨a, c, rfl, h2, b2⟩; have hz2 := hz1.kept b2; have hbel2 := Below.then hbel1 b2)
        | (refine wpList_storeA (by rfl) 24 (.tmp 2) (.tmp 37) (by rfl) (w.heap.size) (wcs (0)) (by rfl) (by rfl) aggWord hz2 (wcs_len _) (by first | exact wcs_len _ | rfl) (wcs_one _) (Below.refl _ _) (Nat.le_refl _) ?_; intro w7 hb7 b7 g7; have hbel7 := hbel2.trans b7))
      exact bodyPost_ret (results_blk_tmp rfl _ _ w.heap.size aggWord hb7 (wcs_len _) rfl rfl) rfl ⟨rfl, hbel7⟩
    · have hz : ((n : Int) == 0) = false := by rw [beq_eq_false_iff_ne]; omega
      by_cases h64 : 64 < n
      · obtain ⟨e1, e2⟩ := n_no (L := L) (by unfold nOk; rw [hok, ← hR, ← hn, Bool.true_and, decide_eq_false_iff_not]; omega)
        rw [e1, e2]
        have hd : (64 : Int) < (n : Int) := by omega
        clear hok e1 e2 hR hn hsm
        go_enter Try.func49, Try.ntmps49
        go_wp2_with (first
          | (rw [show w.alloc (.cells #[.int .u64 0, .int .u64 0, .int .u64 0, .int .u64 0] 24) = w1 from by rw [Hw1.out]; rfl])
          | (go_at_call 102; (with_reducible refine (Cc.out _).mono ?_); rintro e w2 ⟨a, c, rfl, h2, b2⟩; have hz2 := hz1.kept b2; have hbel2 := Below.then hbel1 b2)
          | (refine wpList_storeA (by rfl) 24 (.tmp 2) (.tmp 37) (by rfl) (w.heap.size) (wcs (0)) (by rfl) (by rfl) aggWord hz2 (wcs_len _) (by first | exact wcs_len _ | rfl) (wcs_one _) (Below.refl _ _) (Nat.le_refl _) ?_; intro w7 hb7 b7 g7; have hbel7 := hbel2.trans b7))
        exact bodyPost_ret (results_blk_tmp rfl _ _ w.heap.size aggWord hb7 (wcs_len _) rfl rfl) rfl ⟨rfl, hbel7⟩
      · obtain ⟨x, t, hRx⟩ : ∃ x t, R = x :: t := by
          cases hq : R with
          | nil => rw [hq] at hn; exact absurd hn hn0
          | cons x t => exact ⟨x, t, rfl⟩
        have g0 : 0 < n := by omega
        have g0' : (0 : Int) < (n : Int) := by omega
        have hd64 : decide ((64 : Int) < (n : Int)) = false := by rw [decide_eq_false_iff_not]; omega
        have hat : ∀ (w2 : World) a c, Bytes w2 (.slice a n c) R → ∃ blk off, a = some ⟨blk, off, none⟩ ∧ w2.cell? ⟨blk, off, none⟩ = some (.int .u8 (x.toNat : Int)) := by
          intro w2 a c h2
          obtain ⟨blk, off, ha, hc⟩ := Bytes.at h2 0 (by omega)
          refine ⟨blk, off, ha, ?_⟩
          rw [Nat.add_zero] at hc
          rw [hc]; simp [hRx]
        have Hat := Lib.hid hat
        by_cases hlead : 1 < n ∧ x = 0
        · obtain ⟨hl1, rfl⟩ := hlead
          obtain ⟨e1, e2⟩ := n_no (L := L) (by
            unfold nOk
            rw [hok, ← hR, ← hn, Bool.true_and, decide_eq_false_iff_not]
            rintro ⟨_, _, h | h⟩
            · omega
            · exact h (by rw [hRx]; rfl))
          rw [e1, e2]
          have hd1 : (1 : Int) < (n : Int) := by omega
          clear hok e1 e2 hR hn hsm hat hRx hl1
          go_enter Try.func49, Try.ntmps49
          go_wp2_with (first
            | (rw [show w.alloc (.cells #[.int .u64 0, .int .u64 0, .int .u64 0, .int .u64 0] 24) = w1 from by rw [Hw1.out]; rfl])
            | (go_at_call 102; (with_reducible refine (Cc.out _).mono ?_); rintro e w2 ⟨a, c, rfl, h2, b2⟩; have hz2 := hz1.kept b2; have hbel2 := Below.then hbel1 b2; obtain ⟨blk, off, rfl, hc⟩ := Hat.out _ _ _ h2; have hc0 : w2.cell? ⟨blk, off, none⟩ = some (.int .u8 0) := hc; clear hc)
            | (refine wpList_storeA (by rfl) 24 (.tmp 2) (.tmp 37) (by rfl) (w.heap.size) (wcs (0)) (by rfl) (by rfl) aggWord hz2 (wcs_len _) (by first | exact wcs_len _ | rfl) (wcs_one _) (Below.refl _ _) (Nat.le_refl _) ?_; intro w7 hb7 b7 g7; have hbel7 := hbel2.trans b7))
          exact bodyPost_ret (results_blk_tmp rfl _ _ w.heap.size aggWord hb7 (wcs_len _) rfl rfl) rfl ⟨rfl, hbel7⟩
        · obtain ⟨e1, e2⟩ := n_yes (L := L) (by
            unfold nOk
            rw [hok, ← hR, ← hn, Bool.true_and, decide_eq_true_eq]
            refine ⟨by omega, by omega, ?_⟩
            by_cases h1 : n = 1
            · exact .inl h1
            · refine .inr ?_
              rw [hRx]
              intro e
              exact hlead ⟨by omega, Option.some.inj e⟩)
          rw [e1, e2, ← hR]
          have hvs : ∀ k, valD (R.take k) < W256 := fun k => valD_small _ (fun y hy => hsm y (List.mem_of_mem_take hy)) (by rw [List.length_take]; omega)
          have hvt := fun k (hk : k < R.length) => valD_take R k hk
          have hall : R.take n = R := List.take_of_length_le (by omega)
          have Hvs := Lib.hid hvs
          have Hvt := Lib.hid hvt
          have Hall := Lib.hid hall
          have hsplit : (decide ((1 : Int) < (n : Int)) = false) ∨ (decide ((1 : Int) < (n : Int)) = true ∧ ((x.toNat : Int) == 0) = false) := by
            by_cases h1 : 1 < n
            · right
              refine ⟨by rw [decide_eq_true_eq]; omega, ?_⟩
              rw [beq_eq_false_iff_ne]
              intro e
              exact hlead ⟨h1, UInt8.toNat_inj.1 (by show x.toNat = 0; omega)⟩
            · left; rw [decide_eq_false_iff_not]; omega
          clear hok e1 e2 hR hn hsm hat hRx hlead hvs hvt hall
          rcases hsplit with hs1 | ⟨hs1, hs2⟩
          all_goals
            go_enter Try.func49, Try.ntmps49
            go_wp2_with (first
              | (rw [show w.alloc (.cells #[.int .u64 0, .int .u64 0, .int .u64 0, .int .u64 0] 24) = w1 from by rw [Hw1.out]; rfl])
              | (go_at_call 102; (with_reducible refine (Cc.out _).mono ?_); rintro e w2 ⟨a, c, rfl, h2, b2⟩; have hz2 := hz1.kept b2; have hbel2 := Below.then hbel1 b2; obtain ⟨blk, off, rfl, hc⟩ := Hat.out _ _ _ h2))
            have hzlt := hz2.lt
            have hb6 := Blk.new w2 24 z4
            rw [← z4_zero] at hb6
            have hz6 := hz2.alloc (.cells (wcs 0).toArray 24)
            have hw6 : Below w2.heap.size w2 (w2.alloc (.cells (wcs 0).toArray 24)) := (Below.refl _ _).alloc (Nat.le_refl _) _
            obtain ⟨g, hg⟩ : ∃ g, g = w2.heap.size := ⟨_, rfl⟩
            have Hg := Lib.hid hg
            rw [← hg] at hb6 hzlt
            rw [show w2.heap.size = g from hg.symm]
            clear hg hc
            go_loopw [40] (fun ix wr => ∃ k : Nat, k ≤ n ∧ ix = .int .i64 (k : Int) ∧ Blk 24 wr g (wcs (valD (R.take k))) ∧ Blk 24 wr w.heap.size z4 ∧ Below w2.heap.size w2 wr) (fun ix _ => n - (intOf ix).toNat)
            case atStart => exact ⟨0, by omega, rfl, hb6, hz6, hw6⟩
            case round =>
              clear hb6 hz6 hw6
              obtain ⟨k, hk, rfl, hb, hzb, hbw⟩ := hrel
              by_cases hlt : k < n
              · have hki : (k : Int) < (n : Int) := by omega
                obtain ⟨blk', off', e, hck⟩ := Bytes.later h2 hbw k (by rw [← Hn.out]; exact hlt)
                simp only [Option.some.injEq, Addr.mk.injEq, and_true] at e
                obtain ⟨rfl, rfl⟩ := e
                have hvt := Hvt.out k (by rw [← Hn.out]; exact hlt)
                obtain ⟨d, hd⟩ : ∃ d, d = R[k]'(by rw [← Hn.out]; exact hlt) := ⟨_, rfl⟩
                rw [← hd] at hvt
                have hck2 : wr.cell? ⟨blk, off + k, none⟩ = some (.int .u8 (d.toNat : Int)) := by rw [hd]; exact hck.2
                have hV := Hvs.out k
                have hV' := Hvs.out (k + 1)
                obtain ⟨V, hVV⟩ : ∃ V, V = valD (R.take k) := ⟨_, rfl⟩
                obtain ⟨U, hU⟩ : ∃ U, U = valD (R.take (k + 1)) := ⟨_, rfl⟩
                rw [← hVV] at hvt hV hb
                rw [← hU] at hvt hV'
                obtain ⟨m, hm⟩ : ∃ m : Nat, m = 16 := ⟨_, rfl⟩
                obtain ⟨Q, hQ⟩ : ∃ Q, Q = mulN V m := ⟨_, rfl⟩
                obtain ⟨D, hD⟩ : ∃ D, D = d.toNat := ⟨_, rfl⟩
                have hQe : Q = 16 * V := by rw [hQ, hm]; unfold mulN; rw [Nat.mod_eq_of_lt (by omega)]; omega
                have hUe : addN Q D = U := by rw [hQe, hD]; unfold addN; rw [Nat.mod_eq_of_lt (by omega)]; omega
                have hDb : D < 256 := by rw [hD]; exact d.toNat_lt
                have c1 : ∀ w, Calls Try.prog 81 #[.int .u64 16] w fun e w' => e = .returned (wv m) ∧ Below w.heap.size w w' := fun w => by rw [hm]; exact int_any 16 (by omega) w
                have c2 := fun w => mul_any V m hV (by rw [hm]; unfold W256; omega) w
                rw [← hQ] at c2
                have c3 := fun w => int_any D (by omega) w
                have c4 := fun w => add_any Q D w
                rw [hUe] at c4
                have C1 := Lib.hid c1
                have C2 := Lib.hid c2
                have C3 := Lib.hid c3
                have C4 := Lib.hid c4
                have HU := Lib.hid hU
                have hwx : IntKind.u64.wrap (D : Int) = (D : Int) := by rw [IntKind.wrap_u64]; omega
                rw [← hD] at hck2
                have a0 := fun u : Ext wr => u.cell (hb.wat 0 (by omega))
                have a1 := fun u : Ext wr => u.cell (hb.wat 1 (by omega))
                have a2 := fun u : Ext wr => u.cell (hb.wat 2 (by omega))
                have a3 := fun u : Ext wr => u.cell (hb.wat 3 (by omega))
                clear c1 c2 c3 c4 hU hVV hQe hUe hQ hm hD hd hvt hV hV' hck
                go_wp2
                refine wp_region_typed wr 7 (by kernel_rfl) (by kernel_rfl) (Below.refl _ _) ?_; simp only [List.take_succ_cons, List.take_zero, List.take_nil]
                iterate 1 (refine wpX_step (by rfl) (fun K hK => ?_); go_simp; first | (refine hK _ ?_; clear hK K) | (apply Exists.intro; refine ⟨fun _ => ?_, hK _ ?_⟩; fail; clear hK K))
                (refine wpX_step (by rfl) (fun K hK => ?_); go_simp; first | (refine hK _ ?_; clear hK K) | (apply Exists.intro; refine ⟨fun _ => ?_, hK _ ?_⟩; exact C1.out _; clear hK K))
                (refine wpX_step (by rfl) (fun K hK => ?_); go_simp; first | (refine hK _ ?_; clear hK K) | (apply Exists.intro; refine ⟨fun _ => ?_, hK _ ?_⟩; exact C2.out _; clear hK K))
                iterate 2 (refine wpX_step (by rfl) (fun K hK => ?_); go_simp; first | (refine hK _ ?_; clear hK K) | (apply Exists.intro; refine ⟨fun _ => ?_, hK _ ?_⟩; fail; clear hK K))
                (refine wpX_step (by rfl) (fun K hK => ?_); go_simp; first | (refine hK _ ?_; clear hK K) | (apply Exists.intro; refine ⟨fun _ => ?_, hK _ ?_⟩; exact C3.out _; clear hK K))
                (refine wpX_step (by rfl) (fun K hK => ?_); go_simp; first | (refine hK _ ?_; clear hK K) | (apply Exists.intro; refine ⟨fun _ => ?_, hK _ ?_⟩; exact C4.out _; clear hK K))
                refine wpX_nil ?_
                intro u2 hu2
                change wpList _ _ _ [_] _ _
                have hbA := hb.kept hu2
                have hzA := hzb.kept hu2
                have hbwA := Below.then hbw hu2
                clear a0 a1 a2 a3 hb hzb hbw hu2
                go_wp2_with (refine wpList_storeA (by rfl) 24 (.tmp 6) (.tmp 50) (by rfl) (g) (wcs (U)) (by rfl) (by rfl) aggWord hbA (wcs_len _) (by first | exact wcs_len _ | rfl) (wcs_one _) (Below.refl _ _) (Nat.le_refl _) ?_; intro u3 o3 b3 g3; have hzB := hzA.grown g3 (by simp; omega); have hbwB := hbwA.trans (b3.mono (by have := Hg.out; omega)))
                rw [HU.out] at o3
                go_roundw
                case rel => exact ⟨k + 1, by omega, by go_num, o3, hzB, hbwB⟩
                case measure => simp [intOf]; omega
              · obtain rfl : k = n := by omega
                rw [Hall.out] at hb
                have hbelF := Below.then hbel2 hbw
                go_wp2_with (first
                  | (refine wpList_loadA (o := ⟨some 52, _, _, _, _, _⟩) (by rfl) 24 (.tmp 6) (by rfl) (g) (by rfl) aggWord hb (wcs_len _) ?_)
                  | (refine wpList_storeA (by rfl) 24 (.tmp 2) (.tmp 52) (by rfl) (w.heap.size) (wcs (valD R)) (by rfl) (by rfl) aggWord hzb (wcs_len _) (by first | exact wcs_len _ | rfl) (wcs_one _) (Below.refl _ _) (Nat.le_refl _) ?_; intro w7 hb7 b7 g7; have hbel7 := hbelF.trans b7))
                exact bodyPost_ret (results_blk_tmp rfl _ _ w.heap.size aggWord hb7 (wcs_len _) rfl rfl) rfl ⟨rfl, hbel7⟩
end Go.Proofs.Ytgmdbleeagfhpaa
