/- The walk of the law PackDecodes. -/
import Derived.Test.YtohenjgegkgncaaSplit16
set_option linter.unusedSimpArgs false
set_option linter.unusedVariables false
namespace Go.Proofs.Ytohenjgegkgncaa
open Go.RowKit
set_option maxHeartbeats 1000000 in
set_option maxRecDepth 100000 in
theorem packDecodes_walk (a : Option Addr) (c : Nat) (b : List UInt8) (w : World) (h : Bytes w (.slice a b.length c) b) (hLs : b.length ≤ 1048576) :
    Calls Try.prog 4 #[.slice a b.length c] w fun e w' => e = .returned (.bool true) ∧ Below w.heap.size w w' := by
  have c1 := fun u (hu : Bytes u (.slice a b.length c) b) => decode_any a b.length c b rfl hLs u hu
  have c2 := fun u (hu : Bytes u (.slice a b.length c) b) => pdecode_any a b.length c b rfl hLs u hu
  obtain ⟨L, hL⟩ : ∃ L, L = b.length := ⟨_, rfl⟩
  simp only [← hL] at c1 c2 h ⊢
  generalize decE b = E at *
  generalize decP b = P at *
  have C1 := Lib.hid c1
  have C2 := Lib.hid c2
  clear c1 c2 hL
  go_enter Try.func4, Try.ntmps4
  go_wp2_with (first
    | (go_at_call 19; (with_reducible refine (C1.out _ h).mono ?_); rintro e w1 ⟨x, rfl, b1, hxF, hbare, hex, hbk⟩; have hx := hxF.is; obtain ⟨l1, tv1, t1, kv1, ks1⟩ := x; obtain ⟨ta1, tc1, rfl, _, _⟩ := hx.inv.1.form; obtain ⟨ka1, kc1, rfl, _, _⟩ := hx.inv.2.1.form; have hx2 := hx.kept ((Below.refl _ _).alloc (Nat.le_refl _) (.cells #[.bool false, .slice none 0 0, .slice none 0 0] 25)); simp only [icells])
    | ((with_reducible show wpList _ _ _ (⟨none, Op.store _ _ (Operand.tmp 10), _, _, _, _⟩ :: _) _ _); refine wpList_storeA (o := ⟨none, _, _, _, _, _⟩) (by rfl) 25 (.tmp 3) (.tmp 10) (by rfl) w1.heap.size [.bool l1, .slice ta1 t1.length tc1, .slice ka1 ks1.length kc1] (by rfl) (by rfl) aggItem (Blk.new w1 25 [.bool false, .slice none 0 0, .slice none 0 0]) (by rfl) (by rfl) (by intro u hu; simp at hu; rcases hu with rfl | rfl | rfl <;> rfl) (((Below.refl w1.heap.size w1).alloc (Nat.le_refl _) (.cells #[.bool false, .slice none 0 0, .slice none 0 0] 25))) (Nat.le_refl _) ?_; intro w2 h3 b2 _; have hx3 := hx.kept b2; have b12 := Below.then b1 b2)
    | (go_at_call 20; (with_reducible refine (C2.out _ (h.below b12)).mono ?_); rintro e w3 ⟨y, rfl, b3, hyF, hey⟩; have hy := hyF.is; obtain ⟨l2, tv2, t2, kv2, ks2⟩ := y; obtain ⟨ta2, tc2, rfl, _, _⟩ := hy.inv.1.form; obtain ⟨ka2, kc2, rfl, _, _⟩ := hy.inv.2.1.form; have h33 := h3.kept b3; have hx4 := hx3.kept b3; have b13 := Below.then b12 b3; simp only [icells])
    | ((with_reducible show wpList _ _ _ (⟨none, Op.store _ _ (Operand.tmp 15), _, _, _, _⟩ :: _) _ _); refine wpList_storeA (o := ⟨none, _, _, _, _, _⟩) (by rfl) 25 (.tmp 5) (.tmp 15) (by rfl) w3.heap.size [.bool l2, .slice ta2 t2.length tc2, .slice ka2 ks2.length kc2] (by rfl) (by rfl) aggItem (Blk.new w3 25 [.bool false, .slice none 0 0, .slice none 0 0]) (by rfl) (by rfl) (by intro u hu; simp at hu; rcases hu with rfl | rfl | rfl <;> rfl) (((Below.refl w3.heap.size w3).alloc (Nat.le_refl _) (.cells #[.bool false, .slice none 0 0, .slice none 0 0] 25))) (Nat.le_refl _) ?_; intro w4 h6 b4 _; have hx5 := hx4.kept b4; have hy5 := hy.kept b4; have b14 := Below.then b13 b4; have h34 := h33.kept b4; have r3 := h34.range0; have r6 := h6.range0; have same := smi_any 10000000 _ _ w4 hbk (by omega) hx5 hy5 (hex.trans hey.symm); have same' : Calls Try.prog 17 #[.agg #[.bool l1, .slice ta1 t1.length tc1, .slice ka1 ks1.length kc1], .agg #[.bool l2, .slice ta2 t2.length tc2, .slice ka2 ks2.length kc2]] w4 (TruePost w4) := same)
    | (refine wpList_loadW (o := ⟨some 21, _, _, _, _, _⟩) 25 (.tmp 3) (by rfl) w1.heap.size 0 (by rfl) aggItem (by rfl) r3 (by rfl) ?_)
    | (refine wpList_loadW (o := ⟨some 22, _, _, _, _, _⟩) 25 (.tmp 5) (by rfl) w3.heap.size 0 (by rfl) aggItem (by rfl) r6 (by rfl) ?_)
    | (go_at_call 17; refine same'.mono ?_; rintro e w5 ⟨rfl, b5⟩; have hx6 := hx5.kept b5; have b15 := Below.then b14 b5; have h35 := h34.kept b5; have r35 := h35.range0; have bare := bare_any 10000000 _ w5 hbk (by omega) hx6 hbare; have bare' : Calls Try.prog 18 #[.agg #[.bool l1, .slice ta1 t1.length tc1, .slice ka1 ks1.length kc1]] w5 (TruePost w5) := bare)
    | (refine wpList_loadW (o := ⟨some 26, _, _, _, _, _⟩) 25 (.tmp 3) (by rfl) w1.heap.size 0 (by rfl) aggItem (by rfl) r35 (by rfl) ?_)
    | (go_at_call 18; refine bare'.mono ?_; rintro e w6 ⟨rfl, b6⟩; have b16 := Below.then b15 b6))
  go_ret
  exact ⟨rfl, b16⟩
end Go.Proofs.Ytohenjgegkgncaa
