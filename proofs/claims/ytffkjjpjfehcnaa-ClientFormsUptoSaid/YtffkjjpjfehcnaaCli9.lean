/- The reference's sameSeats of like ones; client.Env and the reference's. -/
import Derived.Test.YtffkjjpjfehcnaaCli5
set_option linter.unusedSimpArgs false
set_option linter.unusedVariables false
namespace Go.Proofs.Ytffkjjpjfehcnaa
open Go.RowKit
set_option maxHeartbeats 1000000 in
set_option maxRecDepth 100000 in
theorem sames_any (a b : Option Addr) (n c d : Nat) (l : List Nat) (hn : l.length = n) (w : World) (h1 : RowOf u64c 1 w (.slice a n c) l) (h2 : RowOf u64c 1 w (.slice b n d) l) :
    Calls Try.prog 93 #[.slice a n c, .slice b n d] w fun e w' => e = .returned (.bool true) ∧ Below w.heap.size w w' := by
  have Hn := Lib.hid hn
  have hsm := h1.small
  unfold maxLen at hsm
  rw [hn] at hsm
  clear hn
  go_enter Try.func93, Try.ntmps93
  go_wp2_with fail
  go_loopw [13] (fun ix wr => ∃ k : Nat, k ≤ n ∧ ix = .int .i64 (k : Int) ∧ Below w.heap.size w wr) (fun ix _ => n - (intOf ix).toNat)
  case atStart => exact ⟨0, by omega, rfl, Below.refl _ _⟩
  case round =>
    obtain ⟨k, hk, rfl, hbel⟩ := hrel
    by_cases hlt : k < n
    · have hki : (k : Int) < (n : Int) := by omega
      obtain ⟨b1, o1, rfl, hc1⟩ := u64_at (h1.below hbel) k (by rw [Hn.out]; exact hlt)
      obtain ⟨b2, o2, rfl, hc2⟩ := u64_at (h2.below hbel) k (by rw [Hn.out]; exact hlt)
      generalize gv l k = x at *
      have k1 := fun u : Ext wr => u.cell hc1
      have k2 := fun u : Ext wr => u.cell hc2
      have hxx : ((x : Int) != (x : Int)) = false := by simp
      clear hc1 hc2
      go_wp2_with fail
      refine wp_region_typed wr 9 (by kernel_rfl) (by kernel_rfl) (Below.refl _ _) ?_; simp only [List.take_succ_cons, List.take_zero, List.take_nil]
      iterate 9 (refine wpX_step (by rfl) (fun K hK => ?_); go_simp; first | (refine hK _ ?_; clear hK K) | (apply Exists.intro; refine ⟨fun _ => ?_, hK _ ?_⟩; fail; clear hK K))
      refine wpX_nil ?_
      intro u2 hb2
      have hbel2 := Below.then hbel hb2
      change forallRel u2 [] _ _
      simp only [forallRel, List.drop_succ_cons, List.drop_zero, List.drop_nil]
      clear k1 k2
      go_wp2_with fail
      go_roundw
      case rel => exact ⟨k + 1, by omega, by go_num, hbel2⟩
      case measure => simp [intOf]; omega
    · obtain rfl : k = n := by omega
      go_wp2_with fail
      go_ret
      exact ⟨rfl, hbel⟩
/-- a block's surroundings -/
def envc (h : Hd) : List Value := [u64v h.num, u64v h.tim] ++ by8 h.kee
theorem envc_len {h : Hd} (k : h.Ok) : (envc h).length = 10 := by unfold envc; rw [List.length_append, by8_len, k.kee]; rfl
theorem envc_one (h : Hd) : ∀ u ∈ envc h, u.oneCell' = true := by
  intro u hu
  unfold envc at hu
  rcases List.mem_append.1 hu with hu | hu
  · simp only [List.mem_cons, List.not_mem_nil, or_false] at hu
    rcases hu with rfl | rfl <;> rfl
  · obtain ⟨x, _, rfl⟩ := List.mem_map.1 hu
    rfl
theorem aggEnv : Agg Try.prog 44 10 := ⟨_, Try.underlying44, rfl, by kernel_rfl⟩
theorem aggAd : Agg Try.prog 26 8 := ⟨_, Try.underlying26, rfl, by kernel_rfl⟩
def zenv : List Value := [u64v 0, u64v 0] ++ by8 (zeroB 8)
theorem built_env {h : Hd} (k : h.Ok) : Try.prog.built 44 [(0, u64v h.num), (1, u64v h.tim), (2, .agg (by8 h.kee).toArray)] = some (envc h).toArray := by
  have e : ∀ parts, Try.prog.built 44 parts = Instr.fill (#[((0 : Nat), (1 : Nat)), (1, 1), (2, 8)][·]?) zenv.toArray parts := fun _ => by kernel_rfl
  rw [e]
  have hl : (by8 h.kee).length = 8 := by rw [by8_len, k.kee]
  have f1 := fill_lay (#[((0 : Nat), (1 : Nat)), (1, 1), (2, 8)][·]?) 0 0 (u64v h.num) [u64v h.num] rfl rfl [] [u64v 0] ([u64v 0] ++ by8 (zeroB 8)) rfl rfl [(1, u64v h.tim), (2, .agg (by8 h.kee).toArray)]
  have f2 := fill_lay (#[((0 : Nat), (1 : Nat)), (1, 1), (2, 8)][·]?) 1 1 (u64v h.tim) [u64v h.tim] rfl rfl [u64v h.num] [u64v 0] (by8 (zeroB 8)) rfl rfl [(2, .agg (by8 h.kee).toArray)]
  have f3 := fill_lay (#[((0 : Nat), (1 : Nat)), (1, 1), (2, 8)][·]?) 2 2 (.agg (by8 h.kee).toArray) (by8 h.kee) rfl (by rw [hl]; rfl) [u64v h.num, u64v h.tim] (by8 (zeroB 8)) [] rfl (by rw [hl]; rfl) []
  unfold zenv envc
  simp only [List.append_assoc, List.cons_append, List.nil_append, List.append_nil] at f1 f2 f3 ⊢
  rw [f1, f2, f3]
  rfl
theorem wpList_buildB {P : Program} {w : World} {ops : Array Oper} {rest : List Oper} {o : Oper} {a : Act} {Q : Exit → Act → World → Prop} (hgd : o.guard = none) (t : TypeId) (ps : List (Nat × Operand)) (ho : o.op = .build t ps.toArray) (L : List (Nat × Value)) (hL : (ps.map fun x => (x.1, a.eval x.2)) = L) (cells : Array Value) (hb : P.built t L = some cells)
    (h : wpList P ops Q rest (a.put o.dst (.agg cells)) w) : wpList P ops Q (o :: rest) a w := by
  have hb2 : P.built t (ps.toArray.map fun (i, x) => (i, a.eval x)).toList = some cells := by
    rw [← hb, ← hL]
    congr 1
    simp
  refine wpList_build hgd t ps.toArray ho (by rw [hb2]; rfl) ?_
  rw [hb2]
  exact h
theorem keyTypeEnv : Try.prog.keyTypeAt 4 44 = true := by kernel_rfl
theorem run_eqEnv {h : Hd} (k : h.Ok) (w : World) : (binOp .eql 44 (.agg (envc h).toArray) (.agg (envc h).toArray)).run Try.prog w = .ok (.bool true) w := by
  have c8 : Try.prog.cellsOf 26 = 8 := by kernel_rfl
  have c1 : Try.prog.cellsOf 24 = 1 := by kernel_rfl
  have cE : Try.prog.cellsOf 44 = 10 := by kernel_rfl
  have e0 := keyL64 2 k.num
  have e1 := keyL64 2 k.tim
  have e2 := keyA (t := 26) (n := 8) Try.underlying26 c8 1 h.kee k.kee
  have hk : Try.prog.keyLits 4 44 (envc h) = some [lit64 h.num, lit64 h.tim, lit8 h.kee].flatten := by
    unfold Program.keyLits
    simp only [show Try.prog.underlying 44 = some (.struct _) from Try.underlying44]
    have d0 : ((envc h).drop 0).take 1 = [u64v h.num] := rfl
    have d1 : ((envc h).drop 1).take 1 = [u64v h.tim] := rfl
    have d2 : ((envc h).drop 2).take 8 = by8 h.kee := by
      show (by8 h.kee).take 8 = _
      exact List.take_of_length_le (by rw [by8_len, k.kee]; omega)
    rw [← d0] at e0
    rw [← d1] at e1
    rw [← d2] at e2
    rw [if_pos ⟨by rw [envc_len k, cE], by kernel_rfl⟩]
    simp only [List.mapM_cons, List.mapM_nil, c8, c1, e0, e1, e2]
    rfl
  have hf : (Value.agg (envc h).toArray).formed Try.prog 44 = true := by
    unfold Value.formed
    simp only [show Try.prog.underlying 44 = some (.struct _) from Try.underlying44, cE, List.size_toArray, envc_len k, beq_self_eq_true]
  obtain ⟨r, hr, hi⟩ := run_equalIn_deep 9996 4 44 keyTypeEnv w 4 4 (.agg (envc h).toArray) (.agg (envc h).toArray) _ _ hf hf hk hk
  have h2 : r = true := hi.2 rfl
  rw [h2] at hr
  have h3 : (Op.equalIn 10000 44 (.agg (envc h).toArray) (.agg (envc h).toArray)).run Try.prog w = .ok true w := hr
  rw [run_eql_struct, h3]; rfl
theorem guard_eqEnv (x : Hd) (o1 o2 : Operand) (w1 : World) : (eqGuard .eql 44 o1 o2 (.agg (envc x).toArray) (.agg (envc x).toArray)).run Try.prog w1 = .ok () w1 :=
  run_eqGuard_agg (P := Try.prog) (w := w1) .eql 44 o1 o2 _ _ (by kernel_rfl)
set_option maxHeartbeats 1000000 in
set_option maxRecDepth 100000 in
theorem cenv_any (h : Hd) (k : h.Ok) (w : World) : Calls Try.prog 25 #[.agg (hdcs h).toArray] w fun e w' => e = .returned (.agg (envc h).toArray) ∧ Below w.heap.size w w' := by
  have z1 : Blk 28 ((w.alloc (.cells (hdcs h).toArray 28)).alloc (.cells #[.int .u64 0, .int .u64 0, .int .u8 0, .int .u8 0, .int .u8 0, .int .u8 0, .int .u8 0, .int .u8 0, .int .u8 0, .int .u8 0] 44)) w.heap.size (hdcs h) := (Blk.new w _ _).alloc _
  have z2 : Blk 44 ((w.alloc (.cells (hdcs h).toArray 28)).alloc (.cells #[.int .u64 0, .int .u64 0, .int .u8 0, .int .u8 0, .int .u8 0, .int .u8 0, .int .u8 0, .int .u8 0, .int .u8 0, .int .u8 0] 44)) (w.heap.size + 1) [.int .u64 0, .int .u64 0, .int .u8 0, .int .u8 0, .int .u8 0, .int .u8 0, .int .u8 0, .int .u8 0, .int .u8 0, .int .u8 0] := by
    have := Blk.new (w.alloc (.cells (hdcs h).toArray 28)) 44 [.int .u64 0, .int .u64 0, .int .u8 0, .int .u8 0, .int .u8 0, .int .u8 0, .int .u8 0, .int .u8 0, .int .u8 0, .int .u8 0]
    simpa using this
  have hbel : Below w.heap.size w ((w.alloc (.cells (hdcs h).toArray 28)).alloc (.cells #[.int .u64 0, .int .u64 0, .int .u8 0, .int .u8 0, .int .u8 0, .int .u8 0, .int .u8 0, .int .u8 0, .int .u8 0, .int .u8 0] 44)) := ((Below.refl _ _).alloc (Nat.le_refl _) _).alloc (by simp) _
  have i1 := (z1.cell 32).trans (hdcs_num k)
  have i2 := (z1.cell 33).trans (hdcs_tim k)
  have r3 := z1.range 34 8
  rw [hdcs_kee k] at r3
  have l3 : (by8 h.kee).length = 8 := by rw [by8_len, k.kee]
  have le := envc_len k
  have hb := built_env k
  have Hb := Lib.hid hb
  unfold u64v at i1 i2
  clear hb
  go_enter Try.func25, Try.ntmps25
  go_wp2_with (first
    | (refine wpList_loadW (o := ⟨some 8, _, _, _, _, _⟩) 26 (.tmp 7) (by rfl) w.heap.size 34 (by rfl) aggAd l3 r3 (by rfl) ?_)
    | (refine wpList_buildB (o := ⟨some 9, _, _, _, _, _⟩) (by rfl) 44 [(0, .tmp 4), (1, .tmp 6), (2, .tmp 8)] (by rfl) [(0, u64v h.num), (1, u64v h.tim), (2, .agg (by8 h.kee).toArray)] (by rfl) _ Hb.out ?_)
    | ((with_reducible show wpList _ _ _ (⟨none, Op.store _ _ (Operand.tmp 9), _, _, _, _⟩ :: _) _ _); refine wpList_storeA (o := ⟨none, _, _, _, _, _⟩) (by rfl) 44 (.tmp 2) (.tmp 9) (by rfl) (w.heap.size + 1) (envc h) (by rfl) (by rfl) aggEnv z2 le (by rfl) (envc_one _) hbel (by omega) ?_; intro w5 hh5 hbel5 _))
  exact bodyPost_ret (results_blk rfl _ _ (w.heap.size + 1) aggEnv hh5 le rfl) rfl ⟨rfl, hbel5⟩
set_option maxHeartbeats 1000000 in
set_option maxRecDepth 100000 in
theorem ccenv_any (h : Hd) (k : h.Ok) (w : World) : Calls Try.prog 26 #[.agg (hdcs h).toArray] w fun e w' => e = .returned (.agg (envc h).toArray) ∧ Below w.heap.size w w' := by
  have z1 : Blk 28 ((w.alloc (.cells (hdcs h).toArray 28)).alloc (.cells #[.int .u64 0, .int .u64 0, .int .u8 0, .int .u8 0, .int .u8 0, .int .u8 0, .int .u8 0, .int .u8 0, .int .u8 0, .int .u8 0] 44)) w.heap.size (hdcs h) := (Blk.new w _ _).alloc _
  have z2 : Blk 44 ((w.alloc (.cells (hdcs h).toArray 28)).alloc (.cells #[.int .u64 0, .int .u64 0, .int .u8 0, .int .u8 0, .int .u8 0, .int .u8 0, .int .u8 0, .int .u8 0, .int .u8 0, .int .u8 0] 44)) (w.heap.size + 1) [.int .u64 0, .int .u64 0, .int .u8 0, .int .u8 0, .int .u8 0, .int .u8 0, .int .u8 0, .int .u8 0, .int .u8 0, .int .u8 0] := by
    have := Blk.new (w.alloc (.cells (hdcs h).toArray 28)) 44 [.int .u64 0, .int .u64 0, .int .u8 0, .int .u8 0, .int .u8 0, .int .u8 0, .int .u8 0, .int .u8 0, .int .u8 0, .int .u8 0]
    simpa using this
  have hbel : Below w.heap.size w ((w.alloc (.cells (hdcs h).toArray 28)).alloc (.cells #[.int .u64 0, .int .u64 0, .int .u8 0, .int .u8 0, .int .u8 0, .int .u8 0, .int .u8 0, .int .u8 0, .int .u8 0, .int .u8 0] 44)) := ((Below.refl _ _).alloc (Nat.le_refl _) _).alloc (by simp) _
  have i1 := (z1.cell 32).trans (hdcs_num k)
  have i2 := (z1.cell 33).trans (hdcs_tim k)
  have r3 := z1.range 34 8
  rw [hdcs_kee k] at r3
  have l3 : (by8 h.kee).length = 8 := by rw [by8_len, k.kee]
  have le := envc_len k
  have hb := built_env k
  have Hb := Lib.hid hb
  unfold u64v at i1 i2
  clear hb
  go_enter Try.func26, Try.ntmps26
  go_wp2_with (first
    | (refine wpList_loadW (o := ⟨some 8, _, _, _, _, _⟩) 26 (.tmp 7) (by rfl) w.heap.size 34 (by rfl) aggAd l3 r3 (by rfl) ?_)
    | (refine wpList_buildB (o := ⟨some 9, _, _, _, _, _⟩) (by rfl) 44 [(0, .tmp 4), (1, .tmp 6), (2, .tmp 8)] (by rfl) [(0, u64v h.num), (1, u64v h.tim), (2, .agg (by8 h.kee).toArray)] (by rfl) _ Hb.out ?_)
    | ((with_reducible show wpList _ _ _ (⟨none, Op.store _ _ (Operand.tmp 9), _, _, _, _⟩ :: _) _ _); refine wpList_storeA (o := ⟨none, _, _, _, _, _⟩) (by rfl) 44 (.tmp 2) (.tmp 9) (by rfl) (w.heap.size + 1) (envc h) (by rfl) (by rfl) aggEnv z2 le (by rfl) (envc_one _) hbel (by omega) ?_; intro w5 hh5 hbel5 _))
  exact bodyPost_ret (results_blk rfl _ _ (w.heap.size + 1) aggEnv hh5 le rfl) rfl ⟨rfl, hbel5⟩
end Go.Proofs.Ytffkjjpjfehcnaa
