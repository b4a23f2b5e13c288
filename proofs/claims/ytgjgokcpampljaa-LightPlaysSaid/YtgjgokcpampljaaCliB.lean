/- The reference's sameSeats of like ones; client.Env and the reference's. | The reference's SameStore of like stores. -/
import Derived.Test.YtgjgokcpampljaaCliA
import Derived.Test.YtgjgokcpampljaaSames
/- (Cli9) The reference's sameSeats of like ones; client.Env and the reference's. -/
set_option linter.unusedSimpArgs false
set_option linter.unusedVariables false
namespace Go.Proofs.Ytgjgokcpampljaa
open Go.RowKit
/-- a block's surroundings -/
def envc (h : Hd) : List Value := [u64v h.num, u64v h.tim] ++ by8 h.kee
theorem envc_len {h : Hd} (k : h.Ok) : (envc h).length = 10 := by unfold envc; rw [List.length_append, by8_len, k.kee]; rfl
theorem envc_one (h : Hd) : ∀ u ∈ envc h, u.oneCell' = true := by
  intro u hu
  unfold envc at hu
  rcases List.mem_append.1 hu with hu | hu
  · simp only [List.mem_cons, List.not_mem_nil, or_false] at hu
    rcases hu with rfl | rfl <;> rfl
  · obtain ⟨x, _, rfl⟩ := List.mem_map.1 hu
    rfl
theorem aggAd : Agg Try.prog 26 8 := ⟨_, Try.underlying26, rfl, by kernel_rfl⟩
def zenv : List Value := [u64v 0, u64v 0] ++ by8 (zeroB 8)
end Go.Proofs.Ytgjgokcpampljaa
/- (Cli10) The reference's SameStore of like stores. -/
namespace Go.Proofs.Ytgjgokcpampljaa
open Go.RowKit
set_option maxHeartbeats 1000000 in
set_option maxRecDepth 100000 in
theorem samestore_any (t : Sto) (k : t.hd.Ok) (vs vn vs' vn' : Value) (w : World) (h1 : RowOf u64c 1 w vs t.s) (h2 : RowOf u64c 1 w vn t.n) (h3 : RowOf u64c 1 w vs' t.s) (h4 : RowOf u64c 1 w vn' t.n) :
    Calls Try.prog 18 #[.agg (hdcs t.hd ++ [vs, vn]).toArray, .agg (hdcs t.hd ++ [vs', vn']).toArray] w fun e w' => e = .returned (.bool true) ∧ Below w.heap.size w w' := by
  obtain ⟨sa, sc, rfl, _⟩ := h1.form
  obtain ⟨na, nc, rfl, _⟩ := h2.form
  obtain ⟨sa', sc', rfl, _⟩ := h3.form
  obtain ⟨na', nc', rfl, _⟩ := h4.form
  have m1 := fun u (hu : Below w.heap.size w u) => sames_any sa sa' t.s.length sc sc' t.s rfl u (h1.below hu) (h3.below hu)
  have m2 := fun u (hu : Below w.heap.size w u) => sames_any na na' t.n.length nc nc' t.n rfl u (h2.below hu) (h4.below hu)
  have e1 := fun w1 => run_eqHd k w1
  have g1 := fun o1 o2 w1 => guard_eqHd t.hd t.hd o1 o2 w1
  have hl := hdcs_len k
  generalize t.s.length = sn at *
  generalize t.n.length = nn at *
  obtain ⟨C1, hC1⟩ : ∃ C, C = hdcs t.hd ++ [Value.slice sa sn sc, Value.slice na nn nc] := ⟨_, rfl⟩
  obtain ⟨C2, hC2⟩ : ∃ C, C = hdcs t.hd ++ [Value.slice sa' sn sc', Value.slice na' nn nc'] := ⟨_, rfl⟩
  rw [← hC1, ← hC2]
  have z1 : Blk 31 ((w.alloc (.cells C1.toArray 31)).alloc (.cells C2.toArray 31)) w.heap.size C1 := (Blk.new w _ _).alloc _
  have z2 : Blk 31 ((w.alloc (.cells C1.toArray 31)).alloc (.cells C2.toArray 31)) (w.heap.size + 1) C2 := by
    have := Blk.new (w.alloc (.cells C1.toArray 31)) 31 C2
    simpa using this
  have hbel1 : Below w.heap.size w ((w.alloc (.cells C1.toArray 31)).alloc (.cells C2.toArray 31)) := ((Below.refl _ _).alloc (Nat.le_refl _) _).alloc (by simp) _
  have r1 := z1.range 0 204
  have r2 := z2.range 0 204
  have c1 := (z1.cell 204).trans ((congrArg (fun l : List Value => l[204]?) hC1).trans (stc_s k _ _))
  have c2 := (z1.cell 205).trans ((congrArg (fun l : List Value => l[205]?) hC1).trans (stc_n k _ _))
  have c3 := (z2.cell 204).trans ((congrArg (fun l : List Value => l[204]?) hC2).trans (stc_s k _ _))
  have c4 := (z2.cell 205).trans ((congrArg (fun l : List Value => l[205]?) hC2).trans (stc_n k _ _))
  rw [hC1, stc_hd k, ← hC1] at r1
  rw [hC2, stc_hd k, ← hC2] at r2
  generalize hdcs t.hd = D at *
  have M1 := Lib.hid m1
  have M2 := Lib.hid m2
  have E1 := Lib.hid e1
  have G1 := Lib.hid g1
  have R1 := Lib.hid r1
  have R2 := Lib.hid r2
  clear m1 m2 z1 z2 h1 h2 h3 h4 hC1 hC2 e1 g1 r1 r2
  go_enter Try.func18, Try.ntmps18
  go_wp2_with (first
    | (refine wpList_loadW (o := ⟨some 6, _, _, _, _, _⟩) 28 (.tmp 5) (by rfl) w.heap.size 0 (by rfl) aggHd hl R1.out (by rfl) ?_)
    | (refine wpList_loadW (o := ⟨some 8, _, _, _, _, _⟩) 28 (.tmp 7) (by rfl) (w.heap.size + 1) 0 (by rfl) aggHd hl R2.out (by rfl) ?_)
    | (refine wpList_eqlC (o := ⟨some 9, _, _, _, _, _⟩) (by rfl) 28 (.tmp 6) (.tmp 8) _ (by rfl) (by rfl) (by rfl) G1.out E1.out ?_)
    | (go_at_call 84; first
        | ((with_reducible refine (M1.out _ hbel1).mono ?_); rintro e w2 ⟨rfl, b2⟩; have hbel2 := Below.then hbel1 b2; have c22 := (b2.cell (World.block_lt_of_cell? _ _ c2)).trans c2; have c42 := (b2.cell (World.block_lt_of_cell? _ _ c4)).trans c4)
        | ((with_reducible refine (M2.out _ hbel2).mono ?_); rintro e w3 ⟨rfl, b3⟩; have hbel3 := Below.then hbel2 b3)))
  go_ret
  exact ⟨rfl, hbel3⟩
end Go.Proofs.Ytgjgokcpampljaa
