/- tx.Sum. -/
import Derived.Test.YtnhbfnegpjkojaaTx5
import Derived.Test.YtnhbfnegpjkojaaHash
import Derived.Test.YtnhbfnegpjkojaaHashQ
import Derived.Test.YtnhbfnegpjkojaaSumA
set_option linter.unusedSimpArgs false
set_option linter.unusedVariables false
namespace Go.Proofs.Ytnhbfnegpjkojaa
open Go.RowKit
theorem sumB_len8 (l : List UInt8) : ((sumB l).map u8v).length = 32 := by rw [List.length_map]; exact sumB_len l
set_option maxHeartbeats 2000000 in
set_option maxRecDepth 100000 in
theorem xsum_any (t : Txd) (k : t.Ok) (da : Option Addr) (dn dc : Nat) (w : World) (hd : Bytes w (.slice da dn dc) t.dat) : Calls Try.prog 41 #[.agg (txcs t (.slice da dn dc)).toArray] w fun e w' => e = .returned (.agg ((sumB (wX t)).map u8v).toArray) ∧ Below w.heap.size w w' := by
  have hlX := txcs_len k (.slice da dn dc)
  have cw := fun u (hu : Bytes u (.slice da dn dc) t.dat) => xwrite_any t k da dn dc u hu
  obtain ⟨X, hX⟩ : ∃ X, X = txcs t (.slice da dn dc) := ⟨_, rfl⟩
  rw [← hX] at hlX ⊢
  simp only [← hX] at cw
  obtain ⟨w1, hw1⟩ : ∃ w1, w1 = (w.alloc (.cells X.toArray 77)).alloc (.cells zh.toArray 31) := ⟨_, rfl⟩
  have z1 : Blk 77 w1 w.heap.size X := by rw [hw1]; exact (Blk.new w _ _).alloc _
  have z2 : Blk 31 w1 (w.heap.size + 1) zh := by
    rw [hw1]
    have := Blk.new (w.alloc (.cells X.toArray 77)) 31 zh
    simpa using this
  have hbel : Below w.heap.size w w1 := by rw [hw1]; exact ((Below.refl _ _).alloc (Nat.le_refl _) _).alloc (by simp) _
  have hd1 := hd.kept hbel
  have hlt2 := z2.lt
  obtain ⟨WB, hWB⟩ : ∃ W, W = wX t := ⟨_, rfl⟩
  rw [← hWB] at cw ⊢
  have cs := fun (a : Option Addr) (c : Nat) u (hu : Bytes u (.slice a WB.length c) WB) => sum_any a WB.length c WB rfl u hu
  have hsl := sumB_len8 WB
  have hs1 : ∀ u ∈ (sumB WB).map u8v, u.oneCell' = true := fun u hu => by obtain ⟨x, _, rfl⟩ := List.mem_map.1 hu; rfl
  obtain ⟨S, hS⟩ : ∃ S, S = (sumB WB).map u8v := ⟨_, rfl⟩
  rw [← hS] at hsl hs1 ⊢
  simp only [← hS] at cs
  have Cw := Lib.hid cw
  have Cs := Lib.hid cs
  have Hd1 := Lib.hid hd1
  have HW : Hid (w1 = (w.alloc (.cells X.toArray 77)).alloc (.cells #[.int .u8 0, .int .u8 0, .int .u8 0, .int .u8 0, .int .u8 0, .int .u8 0, .int .u8 0, .int .u8 0, .int .u8 0, .int .u8 0, .int .u8 0, .int .u8 0, .int .u8 0, .int .u8 0, .int .u8 0, .int .u8 0, .int .u8 0, .int .u8 0, .int .u8 0, .int .u8 0, .int .u8 0, .int .u8 0, .int .u8 0, .int .u8 0, .int .u8 0, .int .u8 0, .int .u8 0, .int .u8 0, .int .u8 0, .int .u8 0, .int .u8 0, .int .u8 0] 31)) := Lib.hid hw1
  clear cw cs hX hw1 hWB hS hd hd1 k
  go_enter Try.func41, Try.ntmps41
  go_wp2_with (first
    | ((with_reducible show wpList _ _ _ (⟨some 3, _, _, _, _, _⟩ :: _) _ _); rw [← HW.out]; refine wpList_loadA (o := ⟨some 3, _, _, _, _, _⟩) (by rfl) 77 (.tmp 1) (by rfl) w.heap.size (by rfl) aggTx z1 hlX ?_)
    | (go_at_call 38; (with_reducible refine (Cw.out _ Hd1.out).mono ?_); rintro e w2 ⟨v2, rfl, o2, b2⟩; obtain ⟨a2, c2, rfl, _⟩ := o2.form; have bb2 := Below.then hbel b2; have y2 := z2.kept b2)
    | (go_at_call 56; (with_reducible refine (Cs.out _ _ _ o2.row).mono ?_); rintro e w3 ⟨rfl, b3⟩; have bb3 := Below.then bb2 b3; have y3 := y2.kept b3)
    | ((with_reducible show wpList _ _ _ (⟨none, Op.store _ _ (Operand.tmp 5), _, _, _, _⟩ :: _) _ _); refine wpList_storeA (o := ⟨none, _, _, _, _, _⟩) (by rfl) 31 (.tmp 2) (.tmp 5) (by rfl) (w.heap.size + 1) S (by rfl) (by rfl) aggHs y3 hsl (by rfl) hs1 (Below.refl _ _) (Nat.le_refl _) ?_; intro w4 y4 b4 _; have bb4 := bb3.trans (b4.mono (by omega))))
  exact bodyPost_ret (results_blk rfl _ _ (w.heap.size + 1) aggHs y4 hsl rfl) rfl ⟨rfl, bb4⟩
end Go.Proofs.Ytnhbfnegpjkojaa
