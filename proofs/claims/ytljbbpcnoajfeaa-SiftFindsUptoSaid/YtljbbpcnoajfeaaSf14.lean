/- The reference's SameLogs of like logs. -/
import Derived.Test.YtljbbpcnoajfeaaSf2
import Derived.Test.YtljbbpcnoajfeaaWeq
import Derived.Test.YtljbbpcnoajfeaaAeq
set_option linter.unusedSimpArgs false
set_option linter.unusedVariables false
namespace Go.Proofs.Ytljbbpcnoajfeaa
open Go.RowKit
set_option maxHeartbeats 1000000 in
set_option maxRecDepth 100000 in
theorem feqw_any (a b : Option Addr) (n c d : Nat) (l : List Nat) (hn : l.length = n) (hl : ∀ x ∈ l, x < W256) (w : World) (h1 : RowOf wcs 4 w (.slice a n c) l) (h2 : RowOf wcs 4 w (.slice b n d) l) (hN : n ≤ 140737488355328) :
    Calls Try.prog 60 #[.slice a n c, .slice b n d] w fun e w' => e = .returned (.bool true) ∧ Below w.heap.size w w' := by
  have Hn := Lib.hid hn
  clear hn
  go_enter Try.func60, Try.ntmps60
  go_wp2_with fail
  go_loopw [13] (fun ix wr => ∃ k : Nat, k ≤ n ∧ ix = .int .i64 (k : Int) ∧ Below w.heap.size w wr) (fun ix _ => n - (intOf ix).toNat)
  case atStart => exact ⟨0, by omega, rfl, Below.refl _ _⟩
  case round =>
    obtain ⟨k, hk, rfl, hbel⟩ := hrel
    by_cases hlt : k < n
    · have hki : (k : Int) < (n : Int) := by omega
      have hwi : IntKind.i64.wrap ((k : Int) + 1) = ((k + 1 : Nat) : Int) := by rw [IntWalk.i64_in _ (by omega)]; omega
      have hil : k < l.length := by rw [Hn.out]; exact hlt
      obtain ⟨b1, o1, rfl, r1⟩ := RowOf.range wcs_len (h1.below hbel) k hil
      obtain ⟨b2, o2, rfl, r2⟩ := RowOf.range wcs_len (h2.below hbel) k hil
      obtain ⟨X, hX⟩ : ∃ X, X = l[k] := ⟨_, rfl⟩
      have hX8 : X < W256 := by rw [hX]; exact hl _ (List.getElem_mem hil)
      rw [← hX] at r1 r2
      have g1 := guardNeWN X X
      have q1 := neWN X X hX8 hX8
      rw [show (!decide (X = X)) = false from by simp] at q1
      obtain ⟨XC, hXC⟩ : ∃ C, C = wcs X := ⟨_, rfl⟩
      have hXl : XC.length = 4 := by rw [hXC]; exact wcs_len X
      rw [← hXC] at r1 r2 g1 q1
      have G1 := Lib.hid g1
      have Q1 := Lib.hid q1
      have R1 := Lib.hid r1
      have R2 := Lib.hid r2
      have HXl := Lib.hid hXl
      clear g1 q1 r1 r2 hXC hXl hX hX8
      go_upto_region 6 with fail
      refine wp_region_typed wr 9 (by kernel_rfl) (by kernel_rfl) (Below.refl _ _) ?_; simp only [List.take_succ_cons, List.take_zero, List.take_nil]
      iterate 3 (refine wpX_step (by rfl) (fun K hK => ?_); go_simp; first | (refine hK _ ?_; clear hK K) | (apply Exists.intro; refine ⟨fun _ => ?_, hK _ ?_⟩; fail; clear hK K))
      (refine wpX_step (by rfl) (fun K hK => ?_); rw [if_pos (by rfl)]; refine ⟨_, fun u => const_loadm _ (.tmp 18) (by rfl) _ _ (by rfl) aggWord HXl.out (rangeAt.ext R1.out u), hK _ ?_⟩; clear hK K; simp only [Act.put, List.setIfInBounds_toArray, List.set_cons_zero, List.set_cons_succ])
      iterate 3 (refine wpX_step (by rfl) (fun K hK => ?_); go_simp; first | (refine hK _ ?_; clear hK K) | (apply Exists.intro; refine ⟨fun _ => ?_, hK _ ?_⟩; fail; clear hK K))
      (refine wpX_step (by rfl) (fun K hK => ?_); rw [if_pos (by rfl)]; refine ⟨_, fun u => const_loadm _ (.tmp 22) (by rfl) _ _ (by rfl) aggWord HXl.out (rangeAt.ext R2.out u), hK _ ?_⟩; clear hK K; simp only [Act.put, List.setIfInBounds_toArray, List.set_cons_zero, List.set_cons_succ])
      (refine wpX_step (by rfl) (fun K hK => ?_); rw [if_pos (by rfl)]; refine ⟨_, fun u => const_neq _ _ _ _ (by rfl) (by rfl) (by rfl) (fun o1 o2 w1 => G1.out o1 o2 w1) (fun w1 => Q1.out w1), hK _ ?_⟩; clear hK K; simp only [Act.put, List.setIfInBounds_toArray, List.set_cons_zero, List.set_cons_succ])
      refine wpX_nil ?_
      intro u2 hb2
      have hbel2 := Below.then hbel hb2
      change forallRel u2 [] _ _
      simp only [forallRel, List.drop_succ_cons, List.drop_zero, List.drop_nil]
      try simp only [Act.put, List.setIfInBounds_toArray, List.set_cons_zero, List.set_cons_succ]
      go_wp2_with fail
      go_roundw
      case rel => exact ⟨k + 1, by omega, by go_num, hbel2⟩
      case measure => simp [intOf]; omega
    · obtain rfl : k = n := by omega
      go_wp2_with fail
      go_ret
      exact ⟨rfl, hbel⟩
/-- they tell the same -/
structure Lgv.Like (x y : Lgv) : Prop where
  a : x.addr = y.addr
  t : x.tops = y.tops
  d : x.dat = y.dat
theorem wpList_eqlY {P : Program} {w : World} {ops : Array Oper} {rest : List Oper} {o : Oper} {a : Act} {Q : Exit → Act → World → Prop} (ty : TypeId) (x y : Operand) (t : TypeId) (ho : o.op = .binOp .eql ty x y t) {v v' u : Value} (hx : a.eval x = v) (hy : a.eval y = v')
    (hg : ∀ o1 o2 w1, (eqGuard .eql ty o1 o2 v v').run P w1 = .ok () w1) (hq : ∀ w1, (binOp .eql ty v v').run P w1 = .ok u w1) (hw : Region.wanted o (yielded ops a.tmps) = true) (h : wpList P ops Q rest (a.put o.dst u) w) : wpList P ops Q (o :: rest) a w := by
  refine wpList_step fun K hK => ?_
  rw [if_pos hw]
  unfold Oper.wp execOp
  simp only [ho, hx, hy, Sem.run_bind, hg, hq, Result.andThen_ok, Sem.run_pure]
  exact hK _ _ h
set_option maxHeartbeats 2000000 in
set_option maxRecDepth 100000 in
theorem samelog1_any (x y : Lgv) (hl : x.Like y) (kx : x.Ok) (w : World) (hx : x.In w) (hy : y.In w) :
    Calls Try.prog 59 #[.agg (lgc x).toArray, .agg (lgc y).toArray] w fun e w' => e = .returned (.bool true) ∧ Below w.heap.size w w' := by
  obtain ⟨ta, tc, htv, _⟩ := hx.ht.form
  obtain ⟨da, dc, hdv, _⟩ := hx.hd.form
  obtain ⟨ta', tc', htv', _⟩ := hy.ht.form
  obtain ⟨da', dc', hdv', _⟩ := hy.hd.form
  obtain ⟨w1, hw1⟩ : ∃ w1, w1 = (w.alloc (.cells (lgc x).toArray 84)).alloc (.cells (lgc y).toArray 84) := ⟨_, rfl⟩
  have z1 : Blk 84 w1 w.heap.size (lgc x) := by rw [hw1]; exact (Blk.new w _ _).alloc _
  have z2 : Blk 84 w1 (w.heap.size + 1) (lgc y) := by
    have := Blk.new (w.alloc (.cells (lgc x).toArray 84)) 84 (lgc y)
    simp only [World.size_alloc] at this
    rw [hw1]; exact this
  have hbel : Below w.heap.size w w1 := by rw [hw1]; exact ((Below.refl _ _).alloc (Nat.le_refl _) _).alloc (by simp) _
  have hyt := hy.ht
  have hyd := hy.hd
  rw [← hl.t] at hyt htv'
  rw [← hl.d] at hyd hdv'
  have a1 := z1.range 0 8
  have a2 := z2.range 0 8
  rw [lgc_addr] at a1 a2
  rw [← hl.a] at a2
  have c1 := z1.cell 8
  have c2 := z2.cell 8
  have d1 := z1.cell 9
  have d2 := z2.cell 9
  rw [lgc_tops, htv] at c1
  rw [lgc_tops, htv'] at c2
  rw [lgc_dat, hdv] at d1
  rw [lgc_dat, hdv'] at d2
  have ce := feqw_any ta ta' x.tops.length tc tc' x.tops rfl kx.w w1 (by rw [← htv]; exact hx.ht.below hbel) (by rw [← htv']; exact hyt.below hbel) (by have := kx.t; omega)
  have s1 := fun (u : World) (hu : Below w1.heap.size w1 u) => run_str (P := Try.prog) (src := 22) (dst := 9) elU8.ht (by kernel_rfl) (by kernel_rfl) (w := u) (show Bytes u (.slice da x.dat.length dc) x.dat by rw [← hdv]; exact (hx.hd.below hbel).below hu)
  have s2 := fun (u : World) (hu : Below w1.heap.size w1 u) => run_str (P := Try.prog) (src := 22) (dst := 9) elU8.ht (by kernel_rfl) (by kernel_rfl) (w := u) (show Bytes u (.slice da' x.dat.length dc') x.dat by rw [← hdv']; exact (hyd.below hbel).below hu)
  have gA := fun o1 o2 w1 => guard_eq_a x.addr x.addr o1 o2 w1
  have eA := fun w1 => run_eq_a x.addr x.addr x.len x.len w1
  rw [show (x.addr == x.addr) = true from by simp] at eA
  have lA : (by8 x.addr).length = 8 := by rw [by8_len, x.len]
  have hd : (x.dat == x.dat) = true := by simp
  generalize by8 x.addr = A at *
  obtain ⟨tn, htn⟩ : ∃ n, n = x.tops.length := ⟨_, rfl⟩
  obtain ⟨dn, hdn⟩ : ∃ n, n = x.dat.length := ⟨_, rfl⟩
  rw [← htn] at c1 c2 ce
  rw [← hdn] at d1 d2 s1 s2
  generalize x.dat = D at *
  obtain ⟨XC, hXC⟩ : ∃ C, C = lgc x := ⟨_, rfl⟩
  obtain ⟨YC, hYC⟩ : ∃ C, C = lgc y := ⟨_, rfl⟩
  rw [← hXC, ← hYC] at hw1 ⊢
  have HWe := Lib.hid hw1
  have GA := Lib.hid gA
  have EA := Lib.hid eA
  have A1 := Lib.hid a1
  have A2 := Lib.hid a2
  have Ce := Lib.hid ce
  clear hw1 gA eA a1 a2 ce hXC hYC hdn htn hyt hyd htv hdv htv' hdv' z1 z2 hl kx hx hy
  go_enter Try.func59, Try.ntmps59
  go_wp2_with (first
    | (rw [← HWe.out])
    | (refine wpList_loadW (o := ⟨some 6, _, _, _, _, _⟩) 46 (.tmp 5) (by rfl) w.heap.size 0 (by rfl) aggAd lA A1.out (by rfl) ?_)
    | (refine wpList_loadW (o := ⟨some 8, _, _, _, _, _⟩) 46 (.tmp 7) (by rfl) (w.heap.size + 1) 0 (by rfl) aggAd lA A2.out (by rfl) ?_)
    | (refine wpList_eqlY (o := ⟨some 9, _, _, _, _, _⟩) 46 (.tmp 6) (.tmp 8) _ (by rfl) (by rfl) (by rfl) GA.out EA.out (by rfl) ?_)
    | (go_at_call 60; (with_reducible refine Ce.out.mono ?_); rintro e w2 ⟨rfl, b2⟩; have s1' := s1 w2 b2; have s2' := s2 w2 b2; have d1' : w2.cell? ⟨w.heap.size, 9, none⟩ = some (.slice da dn dc) := (by rw [b2.cell (World.block_lt_of_cell? w1 _ d1)]; exact d1); have d2' : w2.cell? ⟨w.heap.size + 1, 9, none⟩ = some (.slice da' dn dc') := (by rw [b2.cell (World.block_lt_of_cell? w1 _ d2)]; exact d2)))
  go_ret
  exact ⟨rfl, Below.then hbel b2⟩
end Go.Proofs.Ytljbbpcnoajfeaa
