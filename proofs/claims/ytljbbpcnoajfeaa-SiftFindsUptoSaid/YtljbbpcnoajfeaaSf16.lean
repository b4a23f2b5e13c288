/- The reference's SameFound of like ones. -/
import Derived.Test.YtljbbpcnoajfeaaSf15
set_option linter.unusedSimpArgs false
set_option linter.unusedVariables false
namespace Go.Proofs.Ytljbbpcnoajfeaa
open Go.RowKit
theorem good_oneLg {T : Ty} {o : Oper} {a : Act} {w : World} (x : Operand) (ho : o.op = .buildSlice 88 1 #[(0, x)]) (p : Lgv) (hx : a.eval x = .agg (lgc p).toArray) (hT : T (.slice (some ⟨w.heap.size, 0, none⟩) 1 1) (w.alloc (.cells (lgc p).toArray 84))) :
    goodUpon Try.prog T w ((execOp a.eval o).run Try.prog w) := by
  obtain ⟨i, hi, hz, hsi, _⟩ := elLog.info
  have hl := lgc_len p
  have hf := Great.fill_whole (s := 10) (by omega) [Value.agg (lgc p).toArray] ((Array.range (1 * 10)).map ((Value.agg #[Value.int .u8 0, .int .u8 0, .int .u8 0, .int .u8 0, .int .u8 0, .int .u8 0, .int .u8 0, .int .u8 0, .slice none 0 0, .slice none 0 0]).cells[· % (Value.agg #[Value.int .u8 0, .int .u8 0, .int .u8 0, .int .u8 0, .int .u8 0, .int .u8 0, .int .u8 0, .int .u8 0, .slice none 0 0, .slice none 0 0]).cells.size]!)) (fun u hu => by rw [List.mem_singleton] at hu; rw [hu]; simpa [Value.cells] using hl) (by simp)
  have e1 : ([Value.agg (lgc p).toArray].flatMap fun v => v.cells.toList).toArray = (lgc p).toArray := by simp [Value.cells]
  rw [e1] at hf
  unfold execOp
  have hr := run_buildSlice (P := Try.prog) w 88 84 1 (#[(0, x)].map fun (i, x) => (i, a.eval x)) (lgc p).toArray i _ elLog.ht hi hz (by rw [hsi]; omega) (by rw [hsi]; omega) (by rw [hsi, ← hf]; simp [hx])
  simp only [ho, Sem.run_bind, hr, Result.andThen_ok, Sem.run_pure]
  exact ⟨(Below.refl _ _).alloc (Nat.le_refl _) _, hT⟩
/-- one log as a slice -/
def OlT (C : List Value) : Ty := fun v w => ∃ g : Nat, v = .slice (some ⟨g, 0, none⟩) 1 1 ∧ Blk 84 w g C
theorem OlT.mono (C : List Value) : Mono (OlT C) := fun _ _ _ ⟨g, h1, h2⟩ hb => ⟨g, h1, h2.kept hb⟩
theorem lg_row {u : World} {g : Nat} {p : Lgv} (h : Blk 84 u g (lgc p)) : RowOf lgc 10 u (.slice (some ⟨g, 0, none⟩) 1 1) [p] :=
  Blk.row (f := lgc) (size := 10) h [p] 1 1 lgc_len rfl (fun j x hx => by simpa using hx) (Nat.le_refl _) (by unfold maxLen; omega)
theorem good_olT {o : Oper} {a : Act} {w : World} (x : Operand) (ho : o.op = .buildSlice 88 1 #[(0, x)]) (p : Lgv) (C : List Value) (hC : C = lgc p) (hx : a.eval x = .agg C.toArray) : goodUpon Try.prog (OlT C) w ((execOp a.eval o).run Try.prog w) := by
  subst hC
  exact good_oneLg x ho p hx ⟨_, rfl, Blk.new w _ _⟩
theorem fdc_num (x : Fdv) : (fdc x)[0]? = some (.int .u64 (x.num : Int)) := rfl
theorem fdc_tx (x : Fdv) : (fdc x)[1]? = some (.int .i64 (x.tx : Int)) := rfl
theorem fdc_at (x : Fdv) : (fdc x)[2]? = some (.int .i64 (x.at_ : Int)) := rfl
theorem fdc_lgr {w : World} {b o : Nat} {x : Fdv} (h : w.rangeAt b o (fdc x)) : w.rangeAt b (o + 3) (lgc x.l) := fun j v hv => by
  have := h (3 + j) v (by
    unfold fdc
    rw [List.getElem?_append_right (by simp), show 3 + j - [u64v x.num, .int .i64 (x.tx : Int), .int .i64 (x.at_ : Int)].length = j by simp]
    exact hv)
  rw [← Nat.add_assoc] at this
  exact this
theorem tel_like {x y : Fdv} (h : tel x = tel y) : x.num = y.num ∧ x.tx = y.tx ∧ x.at_ = y.at_ ∧ x.l.Like y.l := by
  unfold tel at h
  simp only [Prod.mk.injEq] at h
  exact ⟨h.1, h.2.1, h.2.2.1, ⟨h.2.2.2.1, h.2.2.2.2.1, h.2.2.2.2.2⟩⟩
set_option maxHeartbeats 4000000 in
set_option maxRecDepth 100000 in
theorem samefound_any (ka kb : Option Addr) (n kc kd : Nat) (xs ys : List Fdv) (hn : xs.length = n) (hm : xs.map tel = ys.map tel) (hN : n ≤ 1048576) (hO : ∀ x ∈ xs, x.l.Ok) (w : World) (h1 : RowOf fdc 13 w (.slice ka n kc) xs) (h2 : RowOf fdc 13 w (.slice kb n kd) ys) (i1 : ∀ x ∈ xs, x.l.In w) (i2 : ∀ y ∈ ys, y.l.In w) :
    Calls Try.prog 10 #[.slice ka n kc, .slice kb n kd] w fun e w' => e = .returned (.bool true) ∧ Below w.heap.size w w' := by
  have hyn : ys.length = n := by have := congrArg List.length hm; simp only [List.length_map] at this; omega
  have htl : ∀ k (h1 : k < xs.length) (h2 : k < ys.length), tel xs[k] = tel ys[k] := fun k g1 g2 => by
    have := congrArg (fun l => l[k]?) hm
    simpa [List.getElem?_map, g1, g2] using this
  have Hn := Lib.hid hn
  have Hyn := Lib.hid hyn
  have HT := Lib.hid htl
  clear hn hm hyn htl
  go_enter Try.func10, Try.ntmps10
  go_wp2_with fail
  go_loopw [13] (fun ix wr => ∃ k : Nat, k ≤ n ∧ ix = .int .i64 (k : Int) ∧ Below w.heap.size w wr) (fun ix _ => n - (intOf ix).toNat)
  case atStart => exact ⟨0, by omega, rfl, Below.refl _ _⟩
  case round =>
    obtain ⟨k, hk, rfl, hbel⟩ := hrel
    by_cases hlt : k < n
    · have hki : (k : Int) < (n : Int) := by omega
      have hwi : IntKind.i64.wrap ((k : Int) + 1) = ((k + 1 : Nat) : Int) := by rw [IntWalk.i64_in _ (by omega)]; omega
      have g1 : k < xs.length := by rw [Hn.out]; exact hlt
      have g2 : k < ys.length := by rw [Hyn.out]; exact hlt
      obtain ⟨b1, o1, rfl, r1⟩ := RowOf.range fdc_len (h1.below hbel) k g1
      obtain ⟨b2, o2, rfl, r2⟩ := RowOf.range fdc_len (h2.below hbel) k g2
      have htl := HT.out k g1 g2
      have j1 := i1 _ (List.getElem_mem g1)
      have j2 := i2 _ (List.getElem_mem g2)
      have jo := hO _ (List.getElem_mem g1)
      generalize xs[k] = x at *
      generalize ys[k] = y at *
      obtain ⟨t1, t2, t3, t4⟩ := tel_like htl
      have p0 : wr.cell? ⟨b1, o1 + k * 13, none⟩ = some (.int .u64 (x.num : Int)) := r1 0 _ (fdc_num x)
      have p1 := r1 1 _ (fdc_tx x)
      have p2 := r1 2 _ (fdc_at x)
      have q0 : wr.cell? ⟨b2, o2 + k * 13, none⟩ = some (.int .u64 (y.num : Int)) := r2 0 _ (fdc_num y)
      have q1 := r2 1 _ (fdc_tx y)
      have q2 := r2 2 _ (fdc_at y)
      rw [← t1] at q0
      rw [← t2] at q1
      rw [← t3] at q2
      have l1 := fdc_lgr r1
      have l2 := fdc_lgr r2
      have cs := fun (u : World) (hu : Below wr.heap.size wr u) (gx gy : Nat) (zx : Blk 84 u gx (lgc x.l)) (zy : Blk 84 u gy (lgc y.l)) => samelogs_any (some ⟨gx, 0, none⟩) (some ⟨gy, 0, none⟩) 1 1 1 [x.l] [y.l] rfl rfl (by omega) (fun j h1 h2 => by
        obtain rfl : j = 0 := by simpa using h1
        exact t4) (fun l hl => by rw [List.mem_singleton] at hl; rw [hl]; exact jo) u ⟨lg_row zx, fun l hl => by rw [List.mem_singleton] at hl; rw [hl]; exact j1.kept (Below.then hbel hu)⟩ ⟨lg_row zy, fun l hl => by rw [List.mem_singleton] at hl; rw [hl]; exact j2.kept (Below.then hbel hu)⟩
      obtain ⟨X, hX⟩ : ∃ C, C = lgc x.l := ⟨_, rfl⟩
      obtain ⟨Y, hY⟩ : ∃ C, C = lgc y.l := ⟨_, rfl⟩
      have hXl : X.length = 10 := by rw [hX]; exact lgc_len _
      have hYl : Y.length = 10 := by rw [hY]; exact lgc_len _
      rw [← hX] at l1 cs
      rw [← hY] at l2 cs
      have L1 := Lib.hid l1
      have L2 := Lib.hid l2
      have HX := Lib.hid hX
      have HY := Lib.hid hY
      have HXl := Lib.hid hXl
      have HYl := Lib.hid hYl
      have Cs := Lib.hid cs
      have e0 : ((x.num : Int) != (x.num : Int)) = false := by simp
      have e1 : ((x.tx : Int) != (x.tx : Int)) = false := by simp
      have e2 : ((x.at_ : Int) != (x.at_ : Int)) = false := by simp
      generalize x.num = N0 at *
      generalize x.tx = N1 at *
      generalize x.at_ = N2 at *
      have k0 := fun u : Ext wr => u.cell p0
      have k1 := fun u : Ext wr => u.cell p1
      have k2 := fun u : Ext wr => u.cell p2
      have m0 := fun u : Ext wr => u.cell q0
      have m1 := fun u : Ext wr => u.cell q1
      have m2 := fun u : Ext wr => u.cell q2
      clear l1 l2 cs hX hY hXl hYl p0 p1 p2 q0 q1 q2 t1 t2 t3 t4 r1 r2 j1 j2 jo htl
      go_upto_region 6 with fail
      refine wp_region_typed wr 53 (by kernel_rfl) (by kernel_rfl) (Below.refl _ _) ?_; simp only [List.take_succ_cons, List.take_zero, List.take_nil]
      iterate 42 (refine wpX_step (by rfl) (fun K hK => ?_); go_simp; first | (refine hK _ ?_; clear hK K) | (apply Exists.intro; refine ⟨fun _ => ?_, hK _ ?_⟩; fail; clear hK K))
      (refine wpX_step (by rfl) (fun K hK => ?_); rw [if_pos (by rfl)]; refine ⟨_, fun u => const_loadm _ (.tmp 57) (by rfl) _ _ (by rfl) aggLog HXl.out (rangeAt.ext L1.out u), hK _ ?_⟩; clear hK K; simp only [Act.put, List.setIfInBounds_toArray, List.set_cons_zero, List.set_cons_succ])
      refine wpX_rel 59 (OlT X) rfl (of_decide_eq_true rfl) (OlT.mono _) (fun u hu => ?_) ?_
      · change forallRel u [] _ _
        simp only [forallRel]
        exact ⟨by rfl, good_olT (.tmp 58) (by rfl) x.l X HX.out (by rfl)⟩
      iterate 4 (refine wpX_step (by rfl) (fun K hK => ?_); go_simp; first | (refine hK _ ?_; clear hK K) | (apply Exists.intro; refine ⟨fun _ => ?_, hK _ ?_⟩; fail; clear hK K))
      (refine wpX_step (by rfl) (fun K hK => ?_); rw [if_pos (by rfl)]; refine ⟨_, fun u => const_loadm _ (.tmp 63) (by rfl) _ _ (by rfl) aggLog HYl.out (rangeAt.ext L2.out u), hK _ ?_⟩; clear hK K; simp only [Act.put, List.setIfInBounds_toArray, List.set_cons_zero, List.set_cons_succ])
      refine wpX_rel 65 (OlT Y) rfl (of_decide_eq_true rfl) (OlT.mono _) (fun u hu => ?_) ?_
      · change forallRel u [] _ _
        simp only [forallRel]
        exact ⟨by rfl, good_olT (.tmp 64) (by rfl) y.l Y HY.out (by rfl)⟩
      refine wpX_eq (.bool true) (fun u hu => ?_) ?_
      · change forallRel u [(65, _), (59, _)] _ _
        rintro v65 ⟨gy, rfl, zy⟩ v59 ⟨gx, rfl, zx⟩
        simp only [forallRel]
        refine ⟨by rfl, ?_⟩
        go_simp
        refine (Cs.out u hu gx gy zx zy).mono ?_
        rintro e w8 ⟨rfl, b8⟩
        exact ⟨_, rfl, rfl, b8⟩
      iterate 2 (refine wpX_step (by rfl) (fun K hK => ?_); go_simp; first | (refine hK _ ?_; clear hK K) | (apply Exists.intro; refine ⟨fun _ => ?_, hK _ ?_⟩; fail; clear hK K))
      refine wpX_nil ?_
      intro u2 hb2 v59 _ v65 _
      have hbel2 := Below.then hbel hb2
      try simp only [Act.put, List.setIfInBounds_toArray, List.set_cons_zero, List.set_cons_succ]
      simp only [forallRel, List.drop_succ_cons, List.drop_zero, List.drop_nil]
      clear k0 k1 k2 m0 m1 m2
      go_wp2_with fail
      go_roundw
      case rel => exact ⟨k + 1, by omega, by go_num, hbel2⟩
      case measure => simp [intOf]; omega
    · obtain rfl : k = n := by omega
      go_wp2_with fail
      go_ret
      exact ⟨rfl, hbel⟩
end Go.Proofs.Ytljbbpcnoajfeaa
