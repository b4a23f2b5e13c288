/- block.Sum and the reference's BSum. -/
import Derived.Test.YtffkjjpjfehcnaaHdr7
set_option linter.unusedSimpArgs false
set_option linter.unusedVariables false
namespace Go.Proofs.Ytffkjjpjfehcnaa
open Go.RowKit
set_option maxHeartbeats 1000000 in
set_option maxRecDepth 100000 in
theorem bksum_any (h : Hd) (k : h.Ok) (w : World) : Calls Try.prog 18 #[.agg (hdcs h).toArray] w fun e w' => e = .returned (.agg ((sumB (wH h)).map u8v).toArray) ∧ Below w.heap.size w w' := by
  have hlen := hdcs_len k
  have Kk := Lib.hid k
  have hz0 : Blk 28 ((w.alloc (.cells (hdcs h).toArray 28)).alloc (.cells z32.toArray 23)) w.heap.size (hdcs h) := (Blk.new w _ _).alloc _
  have hz1 : Blk 23 ((w.alloc (.cells (hdcs h).toArray 28)).alloc (.cells z32.toArray 23)) (w.heap.size + 1) z32 := by
    have := Blk.new (w.alloc (.cells (hdcs h).toArray 28)) 23 z32
    simpa using this
  have hbel0 : Below w.heap.size w ((w.alloc (.cells (hdcs h).toArray 28)).alloc (.cells z32.toArray 23)) := ((Below.refl _ _).alloc (Nat.le_refl _) _).alloc (by simp) _
  clear k
  obtain ⟨Bs, hBs⟩ : ∃ Bs, Bs = wH h := ⟨_, rfl⟩
  rw [← hBs]
  have wr := fun u => hwrite_any h Kk.out u
  rw [← hBs] at wr
  have Wr := Lib.hid wr
  have hS32 := scs_len Bs
  clear hBs wr
  go_enter Try.func18, Try.ntmps18
  go_wp2_with (first
    | (refine wpList_loadA (o := ⟨some 3, _, _, _, _, _⟩) (by rfl) 28 (.tmp 1) (by rfl) w.heap.size (by rfl) aggHd hz0 hlen ?_)
    | (go_at_call 16; refine (Wr.out _).mono ?_; rintro e w3 ⟨v3, rfl, o3, b3⟩; obtain ⟨a3, c3, rfl, _⟩ := o3.form; have hz3 := hz1.kept b3; have hbel3 := Below.then hbel0 b3)
    | (go_at_call 89; refine (sum_any a3 _ c3 Bs rfl _ o3.row).mono ?_; rintro e w4 ⟨rfl, b4⟩; have hz4 := hz3.kept b4; have hbel4 := Below.then hbel3 b4)
    | ((with_reducible show wpList _ _ _ (⟨none, Op.store _ _ (Operand.tmp 5), _, _, _, _⟩ :: _) _ _); refine wpList_storeA (o := ⟨none, _, _, _, _, _⟩) (by rfl) 23 (.tmp 2) (.tmp 5) (by rfl) (w.heap.size + 1) (scs Bs) (by rfl) (by rfl) aggHash hz4 hS32 (by rfl) (scs_one _) hbel4 (by omega) ?_; intro w5 hh5 hbel5 _))
  exact bodyPost_ret (results_blk rfl _ _ (w.heap.size + 1) aggHash hh5 hS32 rfl) rfl ⟨rfl, hbel5⟩
set_option maxHeartbeats 1000000 in
set_option maxRecDepth 100000 in
theorem bbsum_any (h : Hd) (k : h.Ok) (w : World) : Calls Try.prog 19 #[.agg (hdcs h).toArray] w fun e w' => e = .returned (.agg ((sumB (wH h)).map u8v).toArray) ∧ Below w.heap.size w w' := by
  have hlen := hdcs_len k
  have Kk := Lib.hid k
  have hz0 : Blk 28 ((w.alloc (.cells (hdcs h).toArray 28)).alloc (.cells z32.toArray 23)) w.heap.size (hdcs h) := (Blk.new w _ _).alloc _
  have hz1 : Blk 23 ((w.alloc (.cells (hdcs h).toArray 28)).alloc (.cells z32.toArray 23)) (w.heap.size + 1) z32 := by
    have := Blk.new (w.alloc (.cells (hdcs h).toArray 28)) 23 z32
    simpa using this
  have hbel0 : Below w.heap.size w ((w.alloc (.cells (hdcs h).toArray 28)).alloc (.cells z32.toArray 23)) := ((Below.refl _ _).alloc (Nat.le_refl _) _).alloc (by simp) _
  clear k
  obtain ⟨Bs, hBs⟩ : ∃ Bs, Bs = wH h := ⟨_, rfl⟩
  rw [← hBs]
  have wr := fun u => bwrite_any h Kk.out u
  rw [← hBs] at wr
  have hBl : Bs.length ≤ 1000 := by rw [hBs]; exact wH_len Kk.out
  have Wr := Lib.hid wr
  have hS32 := scs_len Bs
  clear hBs wr
  go_enter Try.func19, Try.ntmps19
  go_wp2_with (first
    | (refine wpList_loadA (o := ⟨some 3, _, _, _, _, _⟩) (by rfl) 28 (.tmp 1) (by rfl) w.heap.size (by rfl) aggHd hz0 hlen ?_)
    | (go_at_call 17; refine (Wr.out _).mono ?_; rintro e w3 ⟨v3, rfl, o3, b3⟩; obtain ⟨a3, c3, rfl, _⟩ := o3.form; have hz3 := hz1.kept b3; have hbel3 := Below.then hbel0 b3)
    | (go_at_call 33; refine (ssum_any a3 _ c3 Bs rfl _ o3 (by omega)).mono ?_; rintro e w4 ⟨rfl, b4⟩; have hz4 := hz3.kept b4; have hbel4 := Below.then hbel3 b4)
    | ((with_reducible show wpList _ _ _ (⟨none, Op.store _ _ (Operand.tmp 5), _, _, _, _⟩ :: _) _ _); refine wpList_storeA (o := ⟨none, _, _, _, _, _⟩) (by rfl) 23 (.tmp 2) (.tmp 5) (by rfl) (w.heap.size + 1) (scs Bs) (by rfl) (by rfl) aggHash hz4 hS32 (by rfl) (scs_one _) hbel4 (by omega) ?_; intro w5 hh5 hbel5 _))
  exact bodyPost_ret (results_blk rfl _ _ (w.heap.size + 1) aggHash hh5 hS32 rfl) rfl ⟨rfl, hbel5⟩
end Go.Proofs.Ytffkjjpjfehcnaa
