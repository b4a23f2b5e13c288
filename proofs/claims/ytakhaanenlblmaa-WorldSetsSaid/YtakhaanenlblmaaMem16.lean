/- slices.Equal of like answers. -/
import Derived.Test.YtakhaanenlblmaaMem10
import Derived.Test.YtakhaanenlblmaaLits
set_option linter.unusedSimpArgs false
set_option linter.unusedVariables false
namespace Go.Proofs.Ytakhaanenlblmaa
open Go.RowKit
structure Man.Ok (a : Man) : Prop where
  err : a.err < 9223372036854775808
  cost : a.cost < 18446744073709551616
theorem stepM_man {M : List UInt8} (o : Mop) (hM : M.length ≤ 4096) : (stepM M o).2.Ok := by
  unfold stepM
  split
  · exact ⟨by show 30 < _; omega, by show 0 < _; omega⟩
  · split
    · exact ⟨by show 6 < _; omega, by show 0 < _; omega⟩
    · rename_i s hs
      refine ⟨by show 0 < _; omega, ?_⟩
      show priceN M.length s < _
      unfold priceN
      split
      · omega
      · have := costN_small (s / 32); omega
theorem playM_man (l : List Mop) : ∀ (M : List UInt8), M.length ≤ 4096 → M.length % 32 = 0 → ∀ a ∈ (playM M l).2, a.Ok := by
  induction l with
  | nil => intro M _ _ a ha; simp [playM] at ha
  | cons o l ih =>
    intro M h1 h2 a ha
    simp only [playM, List.mem_cons] at ha
    rcases ha with rfl | ha
    · exact stepM_man o h1
    · have := stepM_ok o h1 h2
      exact ih _ this.1 this.2 a ha
theorem lim_lt64 (N i : Nat) : lim N i < 18446744073709551616 := by unfold lim; exact Nat.mod_lt _ (by decide)
theorem keyWd (d N : Nat) : Try.prog.keyLits (d + 2) 40 (wcs N) = some [Lit.int .u64 (lim N 0 : Int), Lit.int .u64 (lim N 1 : Int), Lit.int .u64 (lim N 2 : Int), Lit.int .u64 (lim N 3 : Int)] := by
  have c1 : Try.prog.cellsOf 36 = 1 := by kernel_rfl
  have c4 : Try.prog.cellsOf 40 = 4 := by kernel_rfl
  unfold Program.keyLits
  simp only [show Try.prog.underlying 40 = some (.array 4 36) from Try.underlying40]
  rw [if_pos (by rw [wcs_len, c4]), c1]
  have e0 := keyL64 d (lim_lt64 N 0)
  have e1 := keyL64 d (lim_lt64 N 1)
  have e2 := keyL64 d (lim_lt64 N 2)
  have e3 := keyL64 d (lim_lt64 N 3)
  show ((([0, 1, 2, 3] : List Nat).mapM fun i => Try.prog.keyLits (d + 1) 36 (((wcs N).drop (i * 1)).take 1)).map List.flatten) = _
  have d0 : ((wcs N).drop (0 * 1)).take 1 = [u64v (lim N 0)] := rfl
  have d1 : ((wcs N).drop (1 * 1)).take 1 = [u64v (lim N 1)] := rfl
  have d2 : ((wcs N).drop (2 * 1)).take 1 = [u64v (lim N 2)] := rfl
  have d3 : ((wcs N).drop (3 * 1)).take 1 = [u64v (lim N 3)] := rfl
  simp only [List.mapM_cons, List.mapM_nil, d0, d1, d2, d3, e0, e1, e2, e3]
  rfl
theorem keyTypeMan : Try.prog.keyTypeAt 4 42 = true := by kernel_rfl
theorem keyMan {a : Man} (k : a.Ok) : ∃ l, Try.prog.keyLits 4 42 (manc a) = some l := by
  have c6 : Try.prog.cellsOf 42 = 6 := by kernel_rfl
  have c4 : Try.prog.cellsOf 40 = 4 := by kernel_rfl
  have c1 : Try.prog.cellsOf 36 = 1 := by kernel_rfl
  have c0 : Try.prog.cellsOf 27 = 1 := by kernel_rfl
  have e0 : Try.prog.keyLits 3 27 [.int .i64 (a.err : Int)] = some [Lit.int .i64 (a.err : Int)] := by
    have wf : (Lit.int .i64 (a.err : Int)).wf = true := by
      have := k.err
      simp only [Lit.wf, show IntKind.i64.min = -9223372036854775808 from rfl, show IntKind.i64.max = 9223372036854775807 from rfl, Bool.and_eq_true, decide_eq_true_eq]; omega
    unfold Program.keyLits
    simp only [show Try.prog.underlying 27 = some (.int .i64) from Try.underlying27, wf, and_self, if_true]
  have e1 := keyWd 1 a.word
  have e2 := keyL64 2 k.cost
  have d0 : ((manc a).drop 0).take 1 = [.int .i64 (a.err : Int)] := rfl
  have d1 : ((manc a).drop 1).take 4 = wcs a.word := rfl
  have d2 : ((manc a).drop 5).take 1 = [u64v a.cost] := rfl
  rw [← d0] at e0
  rw [← d1] at e1
  rw [← d2] at e2
  unfold Program.keyLits
  simp only [show Try.prog.underlying 42 = some (.struct _) from Try.underlying42]
  rw [if_pos ⟨by rw [manc_len, c6], by kernel_rfl⟩]
  simp only [List.mapM_cons, List.mapM_nil, c0, c1, c4, e0, e1, e2]
  exact ⟨_, rfl⟩
theorem neMan {a : Man} (k : a.Ok) (w : World) : (binOp .neq 42 (.agg (manc a).toArray) (.agg (manc a).toArray)).run Try.prog w = .ok (.bool false) w := by
  obtain ⟨l, hl⟩ := keyMan k
  have c6 : Try.prog.cellsOf 42 = 6 := by kernel_rfl
  have hf : (Value.agg (manc a).toArray).formed Try.prog 42 = true := by
    unfold Value.formed
    simp only [show Try.prog.underlying 42 = some (.struct _) from Try.underlying42, c6, List.size_toArray, manc_len, beq_self_eq_true]
  obtain ⟨r, hr, hi⟩ := run_equalIn_deep 9996 4 42 keyTypeMan w 4 4 (.agg (manc a).toArray) (.agg (manc a).toArray) l l hf hf hl hl
  have h2 : r = true := hi.2 rfl
  rw [run_neq_struct, hr, h2]; rfl
theorem guardMan {a : Man} (o1 o2 : Operand) (w1 : World) : (eqGuard .neq 42 o1 o2 (.agg (manc a).toArray) (.agg (manc a).toArray)).run Try.prog w1 = .ok () w1 :=
  run_eqGuard_agg (P := Try.prog) (w := w1) .neq 42 o1 o2 _ _ (by kernel_rfl)
set_option maxHeartbeats 1000000 in
set_option maxRecDepth 100000 in
theorem sequalMan (a b : Option Addr) (n c d : Nat) (l : List Man) (hn : l.length = n) (hk : ∀ x ∈ l, x.Ok) (w : World) (h1 : RowOf manc 6 w (.slice a n c) l) (h2 : RowOf manc 6 w (.slice b n d) l) :
    Calls Try.prog 19 #[.slice a n c, .slice b n d] w fun e w' => e = .returned (.bool true) ∧ Below w.heap.size w w' := by
  have Hn := Lib.hid hn
  have Hk := Lib.hid hk
  have hsm := h1.small
  unfold maxLen at hsm
  rw [hn] at hsm
  clear hn hk
  go_enter Try.func19, Try.ntmps19
  go_wp2_with fail
  go_loopw [13] (fun ix wr => ∃ k : Nat, k ≤ n ∧ ix = .int .i64 (k : Int) ∧ Below w.heap.size w wr) (fun ix _ => n - (intOf ix).toNat)
  case atStart => exact ⟨0, by omega, rfl, Below.refl _ _⟩
  case round =>
    obtain ⟨k, hk, rfl, hbel⟩ := hrel
    by_cases hlt : k < n
    · have hki : (k : Int) < (n : Int) := by omega
      have hkl : k < l.length := by rw [Hn.out]; exact hlt
      obtain ⟨b1, o1, rfl, hc1⟩ := RowOf.range manc_len (h1.below hbel) k hkl
      obtain ⟨b2, o2, rfl, hc2⟩ := RowOf.range manc_len (h2.below hbel) k hkl
      have hx := Hk.out _ (List.getElem_mem hkl)
      generalize l[k] = x at *
      have qx : ∀ w1, (binOp .neq 42 (.agg (manc x).toArray) (.agg (manc x).toArray)).run Try.prog w1 = .ok (.bool false) w1 := fun w1 => neMan hx w1
      have gx : ∀ o1 o2 w1, (eqGuard .neq 42 o1 o2 (.agg (manc x).toArray) (.agg (manc x).toArray)).run Try.prog w1 = .ok () w1 := fun o1 o2 w1 => guardMan o1 o2 w1
      obtain ⟨X, hX⟩ : ∃ X, X = manc x := ⟨_, rfl⟩
      have hl6 : X.length = 6 := by rw [hX]; rfl
      rw [← hX] at hc1 hc2 qx gx
      have Q := Lib.hid qx
      have G := Lib.hid gx
      have R1 := Lib.hid hc1
      have R2 := Lib.hid hc2
      clear hX qx gx hx hkl hc1 hc2
      go_wp2_with fail
      refine wp_region_typed wr 9 (by kernel_rfl) (by kernel_rfl) (Below.refl _ _) ?_; simp only [List.take_succ_cons, List.take_zero, List.take_nil]
      iterate 3 (refine wpX_step (by rfl) (fun K hK => ?_); go_simp; first | (refine hK _ ?_; clear hK K) | (apply Exists.intro; refine ⟨fun _ => ?_, hK _ ?_⟩; fail; clear hK K))
      (refine wpX_step (by rfl) (fun K hK => ?_); rw [if_pos (by rfl)]; refine ⟨_, fun u => const_loadm _ (.tmp 18) (by rfl) _ _ (by rfl) aggAns hl6 (rangeAt.ext R1.out u), hK _ ?_⟩; clear hK K; simp only [Act.put, List.setIfInBounds_toArray, List.set_cons_zero, List.set_cons_succ])
      iterate 3 (refine wpX_step (by rfl) (fun K hK => ?_); go_simp; first | (refine hK _ ?_; clear hK K) | (apply Exists.intro; refine ⟨fun _ => ?_, hK _ ?_⟩; fail; clear hK K))
      (refine wpX_step (by rfl) (fun K hK => ?_); rw [if_pos (by rfl)]; refine ⟨_, fun u => const_loadm _ (.tmp 22) (by rfl) _ _ (by rfl) aggAns hl6 (rangeAt.ext R2.out u), hK _ ?_⟩; clear hK K; simp only [Act.put, List.setIfInBounds_toArray, List.set_cons_zero, List.set_cons_succ])
      (refine wpX_step (by rfl) (fun K hK => ?_); rw [if_pos (by rfl)]; refine ⟨_, fun u => const_neq _ _ _ _ (by rfl) (by rfl) (by rfl) (fun o1 o2 w1 => G.out o1 o2 w1) (fun w1 => Q.out w1), hK _ ?_⟩; clear hK K; simp only [Act.put, List.setIfInBounds_toArray, List.set_cons_zero, List.set_cons_succ])
      refine wpX_nil ?_
      intro u2 hb2
      have hbel2 := Below.then hbel hb2
      change forallRel u2 [] _ _
      simp only [forallRel, List.drop_succ_cons, List.drop_zero, List.drop_nil]
      go_wp2_with fail
      go_roundw
      case rel => exact ⟨k + 1, by omega, by go_num, hbel2⟩
      case measure => simp [intOf]; omega
    · obtain rfl : k = n := by omega
      have hki : ¬ (k : Int) < (k : Int) := by omega
      go_wp2_with fail
      go_ret
      exact ⟨rfl, hbel⟩
end Go.Proofs.Ytakhaanenlblmaa
