/- The reference's places, TShl, TShr. -/
import Derived.Test.YtgmdbleeagfhpaaShift5
import Derived.Test.YtgmdbleeagfhpaaHeld
import Derived.ArgAppend
import Derived.Deep.OwnRows
set_option linter.unusedSimpArgs false
set_option linter.unusedVariables false
namespace Go.Proofs.Ytgmdbleeagfhpaa
open Go.RowKit
/-- 'append(full, x..)': what both hold, in a new block. -/
theorem run_appG {α : Type} {f : α → List Value} {P : Program} {t ty e : TypeId} {z : Value} {size bytes : Nat} (el : El P t e z size bytes f) {w : World} {g n cap : Nat} {l m : List α} (hrow1 : RowOf f size w (.slice (some ⟨g, 0, none⟩) n cap) l)
    {u : Value} (hrow : RowOf f size w u m) (hm0 : m.length ≠ 0) (hfull : cap < n + m.length) (hbytes : (l.length + m.length) * bytes ≤ 140737488355328) (h63 : l.length + m.length ≤ maxLen) :
    ∃ v' w', (Builtin.append_ #[t, t] ty #[.slice (some ⟨g, 0, none⟩) n cap, u]).run P w = .ok v' w' ∧ OwnOf f size e w' w.heap.size v' (l ++ m) ∧ Below w.heap.size w w' := by
  obtain ⟨i, hi, hz, hsi, hby⟩ := el.info
  have hadd : ∀ (b off j : Nat), (⟨b, off, none⟩ : Addr).add j = ⟨b, off + j, none⟩ := fun b off j => by unfold Addr.add; split <;> simp_all
  obtain ⟨k0, ao', c', hv', _, _, k3⟩ := hrow1
  simp only [Value.slice.injEq] at hv'
  obtain ⟨rfl, rfl, rfl⟩ := hv'
  obtain ⟨h0, ad, c, rfl, _, _, h3⟩ := hrow
  have h3a := h3.resolve_left (by rintro ⟨_, hm, _⟩; exact hm0 hm)
  clear h3
  obtain ⟨b, off, sp, rfl, hsp, h3⟩ := h3a
  obtain rfl : sp = none := hsp.resolve_right hm0
  have k3a := k3.resolve_left (by rintro ⟨h, _⟩; cases h)
  clear k3
  obtain ⟨b2, off2, sp2, q, hsp2, q3⟩ := k3a
  simp only [Option.some.injEq, Addr.mk.injEq] at q
  obtain ⟨rfl, rfl, rfl⟩ := q
  obtain ⟨v', w', h1, h2, h4⟩ := run_append_arg_grows (P := P) w t ty e i z size bytes el.ht hi hz hsi hby el.hzs el.hsz ⟨g, 0, none⟩ l.length cap (l.flatMap f) k0 (fun j u hu => by rw [hadd]; exact q3 j u hu)
    ⟨b, off, none⟩ m.length c (m.flatMap f) h0 (fun j y hy => by rw [hadd]; exact h3 j y hy) hfull h63 hbytes
  refine ⟨v', w', h1, ?_, (Below.refl _ _).grown h4 (Nat.le_refl _) (fun k hk => by cases hk)⟩
  unfold OwnOf; rw [List.length_append, List.flatMap_append]; exact h2
/-- 'append' in a typed region, its run known. -/
theorem good_append {P : Program} {T : Ty} {o : Oper} {a : Act} {w w' : World} {t : TypeId} {s x : Operand} {vs vx v' : Value} (hop : o.op = Op.call { callee := .builtin .append, args := #[s, x], argTypes := #[t, t] }) (hs : a.eval s = vs) (hx : a.eval x = vx)
    (hrun : (Builtin.append_ #[t, t] o.type #[vs, vx]).run P w = .ok v' w') (h : Below w.heap.size w w' ∧ T v' w') : goodUpon P T w ((execOp a.eval o).run P w) := by
  have : (execOp a.eval o).run P w = .ok (.value v') w' := by simp [execOp, hop, resolve, invoke, builtin, hs, hx, hrun, Result.andThen]
  rw [this]; exact h
theorem flat_rep (p : Nat) : (List.replicate p false).flatMap bbool = List.replicate p (.bool false) := by
  induction p with
  | zero => rfl
  | succ p ih => rw [List.replicate_succ, List.flatMap_cons, ih, List.replicate_succ]; rfl
theorem OwnOf.mono {α : Type} {f : α → List Value} {size : Nat} {e : TypeId} {w : World} {B B' : Nat} {v : Value} {l : List α} (h : OwnOf f size e w B v l) (hB : B' ≤ B) : OwnOf f size e w B' v l := World.ownsRow.mono h hB
set_option maxHeartbeats 400000 in
set_option maxRecDepth 100000 in
theorem places_any (N : Nat) (hN : N < W256) (w : World) : Calls Try.prog 78 #[wv N] w fun e w' => e = .returned (.int .i64 ((min N 256 : Nat) : Int)) ∧ Below w.heap.size w w' := by
  have hb0 := boxW w N
  have hbel0 : Below w.heap.size w (w.alloc (.cells (wcs N).toArray 24)) := (Below.refl _ _).alloc (Nat.le_refl _) _
  obtain ⟨w1, hw1⟩ : ∃ w1, w1 = w.alloc (.cells (wcs N).toArray 24) := ⟨_, rfl⟩
  rw [← hw1] at hb0 hbel0
  show Calls Try.prog 78 #[.agg (wcs N).toArray] w _
  have k0 := fun u : Ext w1 => u.cell (hb0.wat 0 (by omega))
  have k1 := fun u : Ext w1 => u.cell (hb0.wat 1 (by omega))
  have k2 := fun u : Ext w1 => u.cell (hb0.wat 2 (by omega))
  have k3 := fun u : Ext w1 => u.cell (hb0.wat 3 (by omega))
  obtain ⟨M, hM⟩ : ∃ M : Nat, M = 256 := ⟨_, rfl⟩
  have c1 : ∀ w, Calls Try.prog 84 #[.int .u64 256] w fun e w' => e = .returned (wv M) ∧ Below w.heap.size w w' := fun w => by rw [hM]; exact wint_any 256 (by omega) w
  have c2 := fun w => less_any N M hN (by rw [hM]; unfold W256; omega) w
  have C1 := Lib.hid c1
  clear c1
  by_cases hlt : N < 256
  · have hl0 := Lib.hid (show lim N 0 = N by rw [lim0]; omega)
    rw [decide_eq_true (show N < M by omega)] at c2
    have C2 := Lib.hid c2
    have hmin : min N 256 = N := by omega
    rw [hmin]
    have hwr : IntKind.i64.wrap (N : Int) = (N : Int) := IntWalk.i64_in _ (by omega)
    clear c2 hmin hM
    go_enter Try.func78, Try.ntmps78
    go_wp2
    rw [← hw1]
    clear hw1
    refine wp_region_typed w1 3 (by kernel_rfl) (by kernel_rfl) (Below.refl _ _) ?_; simp only [List.take_succ_cons, List.take_zero, List.take_nil]
    iterate 1 (refine wpX_step (by rfl) (fun K hK => ?_); go_simp; first | (refine hK _ ?_; clear hK K) | (apply Exists.intro; refine ⟨fun _ => ?_, hK _ ?_⟩; fail; clear hK K))
    (refine wpX_step (by rfl) (fun K hK => ?_); go_simp; first | (refine hK _ ?_; clear hK K) | (apply Exists.intro; refine ⟨fun _ => ?_, hK _ ?_⟩; exact C1.out _; clear hK K))
    (refine wpX_step (by rfl) (fun K hK => ?_); go_simp; first | (refine hK _ ?_; clear hK K) | (apply Exists.intro; refine ⟨fun _ => ?_, hK _ ?_⟩; exact C2.out _; clear hK K))
    refine wpX_end rfl ?_
    rintro w4 hw4
    simp only [List.reverse_nil, forallRel]
    have hbel4 := hbel0.trans (hw4.mono hbel0.size)
    have hc := (hb0.kept hw4).wat 0 (by omega)
    rw [hl0.out] at hc
    clear k0 k1 k2 k3
    go_wp2
    go_ret
    exact ⟨rfl, hbel4⟩
  · rw [decide_eq_false (show ¬ N < M by omega)] at c2
    have C2 := Lib.hid c2
    have hmin : min N 256 = 256 := by omega
    rw [hmin]
    clear c2 hmin hM
    go_enter Try.func78, Try.ntmps78
    go_wp2
    rw [← hw1]
    clear hw1
    refine wp_region_typed w1 3 (by kernel_rfl) (by kernel_rfl) (Below.refl _ _) ?_; simp only [List.take_succ_cons, List.take_zero, List.take_nil]
    iterate 1 (refine wpX_step (by rfl) (fun K hK => ?_); go_simp; first | (refine hK _ ?_; clear hK K) | (apply Exists.intro; refine ⟨fun _ => ?_, hK _ ?_⟩; fail; clear hK K))
    (refine wpX_step (by rfl) (fun K hK => ?_); go_simp; first | (refine hK _ ?_; clear hK K) | (apply Exists.intro; refine ⟨fun _ => ?_, hK _ ?_⟩; exact C1.out _; clear hK K))
    (refine wpX_step (by rfl) (fun K hK => ?_); go_simp; first | (refine hK _ ?_; clear hK K) | (apply Exists.intro; refine ⟨fun _ => ?_, hK _ ?_⟩; exact C2.out _; clear hK K))
    refine wpX_end rfl ?_
    rintro w4 hw4
    simp only [List.reverse_nil, forallRel]
    have hbel4 := hbel0.trans (hw4.mono hbel0.size)
    clear k0 k1 k2 k3
    go_wp2
    go_ret
    exact ⟨rfl, hbel4⟩
theorem bitsOf_l (N : Nat) (w : World) : Calls Try.prog 79 #[.agg (wcs N).toArray] w fun e w' => ∃ a c, e = .returned (.slice a 256 c) ∧ Bools w' (.slice a 256 c) (bitsL N) ∧ Below w.heap.size w w' := by
  refine (bitsOf_any N w).mono ?_
  rintro e w' ⟨v, rfl, h2, h3⟩
  obtain ⟨a, c, rfl, _⟩ := h2.form' 256 (bitsL_len N)
  exact ⟨a, c, rfl, h2.row, h3⟩
theorem ofBits_l (a : Option Addr) (n c : Nat) (l : List Bool) (R : Nat) (hn : l.length = n) (hR : ofT l = R) (w : World) (h : Bools w (.slice a n c) l) :
    Calls Try.prog 77 #[.slice a n c] w fun e w' => e = .returned (wv R) ∧ Below w.heap.size w w' := by subst hn; subst hR; exact ofBits_any a c l w h
/-- A row of bools of n places; one that is full. -/
def BoolsAt (n : Nat) (l : List Bool) : Ty := fun v w => ∃ a c, v = .slice a n c ∧ Bools w (.slice a n c) l
def FullAt (n : Nat) (l : List Bool) : Ty := fun v w => ∃ g, v = .slice (some ⟨g, 0, none⟩) n n ∧ Bools w (.slice (some ⟨g, 0, none⟩) n n) l
theorem BoolsAt.mono (n : Nat) (l : List Bool) : Mono (BoolsAt n l) := by rintro v w w' ⟨a, c, rfl, h⟩ hb; exact ⟨a, c, rfl, h.kept hb⟩
theorem FullAt.mono (n : Nat) (l : List Bool) : Mono (FullAt n l) := by rintro v w w' ⟨a, rfl, h⟩ hb; exact ⟨a, rfl, h.kept hb⟩
theorem bitsOf_at (N : Nat) (w : World) : Calls Try.prog 79 #[.agg (wcs N).toArray] w fun e w' => ∃ v, e = .returned v ∧ BoolsAt 256 (bitsL N) v w' ∧ Below w.heap.size w w' :=
  (bitsOf_l N w).mono fun e w' ⟨a, c, h1, h2, h3⟩ => ⟨_, h1, ⟨a, c, rfl, h2⟩, h3⟩
set_option maxHeartbeats 800000 in
set_option maxRecDepth 100000 in
theorem tshl_any (N A : Nat) (hN : N < W256) (hA : A < W256) (w : World) : Calls Try.prog 24 #[wv N, wv A] w fun e w' => e = .returned (wv (shlN A N)) ∧ Below w.heap.size w w' := by
  obtain ⟨hb0, hd0, hz0, hbel0⟩ := box3 w N A
  obtain ⟨w1, hw1⟩ : ∃ w1, w1 = ((w.alloc (.cells (wcs N).toArray 24)).alloc (.cells (wcs A).toArray 24)).alloc (.cells z4.toArray 24) := ⟨_, rfl⟩
  rw [← hw1] at hb0 hd0 hz0 hbel0
  show Calls Try.prog 24 #[.agg (wcs N).toArray, .agg (wcs A).toArray] w _
  obtain ⟨p, hp⟩ : ∃ p, p = min N 256 := ⟨_, rfl⟩
  have hp256 : p ≤ 256 := by omega
  have hR : ofT (List.replicate p false ++ bitsL A) = shlN A N := by
    rw [ofT_up A p hA]
    by_cases h : N ≤ 256
    · rw [hp, Nat.min_eq_left h]
    · rw [shl_far A N (by omega), shl_far A p (by omega)]
  have c1 := fun w => places_any N hN w
  rw [← hp] at c1
  have C1 := Lib.hid c1
  have HR := Lib.hid hR
  have k0 := fun u : Ext w1 => u.cell (hb0.wat 0 (by omega))
  have k1 := fun u : Ext w1 => u.cell (hb0.wat 1 (by omega))
  have k2 := fun u : Ext w1 => u.cell (hb0.wat 2 (by omega))
  have k3 := fun u : Ext w1 => u.cell (hb0.wat 3 (by omega))
  have m0 := fun u : Ext w1 => u.cell (hd0.wat 0 (by omega))
  have m1 := fun u : Ext w1 => u.cell (hd0.wat 1 (by omega))
  have m2 := fun u : Ext w1 => u.cell (hd0.wat 2 (by omega))
  have m3 := fun u : Ext w1 => u.cell (hd0.wat 3 (by omega))
  have Hw1 := Lib.hid hw1
  clear c1 hp hR hw1
  go_enter Try.func24, Try.ntmps24
  go_wp2
  rw [show ((w.alloc (.cells (wcs N).toArray 24)).alloc (.cells (wcs A).toArray 24)).alloc (.cells #[.int .u64 0, .int .u64 0, .int .u64 0, .int .u64 0] 24) = w1 from by rw [Hw1.out]; rfl]
  clear Hw1
  refine wp_region_typed w1 7 (by kernel_rfl) (by kernel_rfl) (Below.refl _ _) ?_; simp only [List.take_succ_cons, List.take_zero, List.take_nil]
  (refine wpX_step (by rfl) (fun K hK => ?_); go_simp; first | (refine hK _ ?_; clear hK K) | (apply Exists.intro; refine ⟨fun _ => ?_, hK _ ?_⟩; fail; clear hK K))
  (refine wpX_step (by rfl) (fun K hK => ?_); go_simp; first | (refine hK _ ?_; clear hK K) | (apply Exists.intro; refine ⟨fun _ => ?_, hK _ ?_⟩; exact C1.out _; clear hK K))
  refine wpX_rel 7 (FullAt p (List.replicate p false)) rfl (of_decide_eq_true rfl) (FullAt.mono _ _) (fun w3 hw3 => ?_) ?_
  · simp only [relOf, List.filter_nil, forallRel]
    refine ⟨rfl, ?_⟩
    have hrun := run_make_row' (P := Try.prog) 87 4 (.bool false) 1 (by kernel_rfl) (by kernel_rfl) rfl .i64 .i64 p (by omega) (by omega) w3
    go_simp
    refine ⟨(Below.refl _ _).alloc (Nat.le_refl _) _, _, rfl, ?_⟩
    exact RowOf.made bbool 1 w3 (List.replicate p false) _ _ p (by rw [toList_madeCells_one, flat_rep]) (by simp) (by rw [flat_rep]; simp) (by unfold maxLen; omega)
  (refine wpX_step (by rfl) (fun K hK => ?_); go_simp; first | (refine hK _ ?_; clear hK K) | (apply Exists.intro; refine ⟨fun _ => ?_, hK _ ?_⟩; fail; clear hK K))
  refine wpX_rel 9 (BoolsAt 256 (bitsL A)) rfl (of_decide_eq_true rfl) (BoolsAt.mono _ _) (fun w3 hw3 => ?_) ?_
  · change forallRel w3 [] _ _
    simp only [forallRel]
    refine ⟨rfl, ?_⟩
    go_simp
    exact bitsOf_at A _
  refine wpX_rel 10 (BoolsAt (p + 256) (List.replicate p false ++ bitsL A)) rfl (of_decide_eq_true rfl) (BoolsAt.mono _ _) (fun w3 hw3 => ?_) ?_
  · change forallRel w3 [(9, _), (7, _)] _ _
    rintro v9 ⟨a9, c9, rfl, h9⟩ v7 ⟨g7, rfl, h7⟩
    simp only [forallRel]
    refine ⟨rfl, ?_⟩
    obtain ⟨v', w', hrun, hown, hbel⟩ := run_appG (P := Try.prog) (t := 87) (ty := 87) elBool h7 h9 (by rw [bitsL_len]; omega) (by rw [bitsL_len]; omega) (by rw [bitsL_len]; simp; omega) (by rw [bitsL_len]; simp [maxLen]; omega)
    obtain ⟨a, c, rfl, _⟩ := hown.form' (p + 256) (by simp [bitsL_len])
    have H : Below w3.heap.size w3 w' ∧ BoolsAt (p + 256) (List.replicate p false ++ bitsL A) (.slice a (p + 256) c) w' := ⟨hbel, a, c, rfl, hown.row⟩
    exact good_append (by rfl) (by rfl) (by rfl) hrun H
  refine wpX_eq (wv (shlN A N)) (fun w3 hw3 => ?_) ?_
  · change forallRel w3 [(10, _)] _ _
    rintro v10 ⟨a10, c10, rfl, h10⟩
    simp only [forallRel]
    refine ⟨rfl, ?_⟩
    go_simp
    refine (ofBits_l a10 (p + 256) c10 _ _ (by simp [bitsL_len]) HR.out _ h10).mono ?_
    rintro e w4 ⟨rfl, b⟩
    exact ⟨_, rfl, rfl, b⟩
  refine wpX_nil ?_
  intro w5 hw5 v7 _ v9 _ v10 _
  change wpList _ _ _ [_] _ _
  have hz5 := hz0.kept hw5
  have hbel5 := Below.then hbel0 hw5
  clear k0 k1 k2 k3 m0 m1 m2 m3
  go_wp2_with (refine wpList_storeA (by rfl) 24 (.tmp 4) (.tmp 11) (by rfl) (w.heap.size + 2) (wcs (shlN A N)) (by rfl) (by rfl) aggWord hz5 (wcs_len _) (by first | exact wcs_len _ | rfl) (wcs_one _) (Below.refl _ _) (Nat.le_refl _) ?_; intro w7 hb7 b7 g7; have hbel7 := hbel5.trans (b7.mono (by omega)))
  exact bodyPost_ret (results_blk rfl _ _ (w.heap.size + 2) aggWord hb7 (wcs_len _) rfl) rfl ⟨rfl, hbel7⟩
end Go.Proofs.Ytgmdbleeagfhpaa
