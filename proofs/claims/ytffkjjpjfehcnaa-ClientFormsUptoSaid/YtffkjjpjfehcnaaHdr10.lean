/- block.Read: an item that has not eleven kids. -/
import Derived.Test.YtffkjjpjfehcnaaHdr9
set_option linter.unusedSimpArgs false
set_option linter.unusedVariables false
namespace Go.Proofs.Ytffkjjpjfehcnaa
open Go.RowKit
set_option maxHeartbeats 2000000 in
set_option maxRecDepth 100000 in
theorem read_bad2 (a : Option Addr) (L c : Nat) (b : List UInt8) (hL : b.length = L) (hLs : L ≤ 1048576) (hE : decE b = 0) (hbad : kidsN (decP b) ≠ 11) (w : World) (h : Bytes w (.slice a L c) b) : Calls Try.prog 14 #[.slice a L c] w (ReadC b w) := by
  have hpost : ∀ u, Below w.heap.size w u → ReadC b w (.returned (.tuple #[.agg (hdcs zH).toArray, .int .i64 1])) u := fun u hu => ⟨zH, 1, rfl, zH_ok, rd_form (.inr hbad), hu⟩
  have hz : Blk 28 (w.alloc (.cells Try.zeroCells28 28)) w.heap.size (hdcs zH) := by rw [zcHd]; exact Blk.new w _ _
  have hbel : Below w.heap.size w (w.alloc (.cells Try.zeroCells28 28)) := (Below.refl _ _).alloc (Nat.le_refl _) _
  have hlt0 := hz.lt
  have cc := fun u (hu : Bytes u (.slice a L c) b) => decode_any a L c b hL hLs u hu
  rw [hE] at cc
  have C := Lib.hid cc
  have Hpost := Lib.hid hpost
  have Hbad := Lib.hid hbad
  have hl204 := hdcs_len zH_ok
  clear cc hE hbad hL hLs hpost
  go_enter Try.func14, Try.ntmps14
  go_wp2_with (first
    | (go_at_call 74; (with_reducible refine (C.out _ (h.alloc _)).mono ?_); rintro e w1 ⟨it, rfl, b1, hF, hbare, he, _⟩; have hz1 := hz.kept b1; have hbel1 := Below.then hbel b1; have hs1 := Nat.lt_of_lt_of_le hlt0 b1.size; obtain ⟨l, tv, t, kv, ks⟩ := it; have hkk := (kids_of hbare he).1; obtain ⟨ta, tc, rfl, _, _⟩ := hF.is.inv.1.form; obtain ⟨ka, kc, rfl, _, _⟩ := hF.is.inv.2.1.form; obtain ⟨kn, hkn⟩ : ∃ kn, kn = ks.length := ⟨_, rfl⟩; change ks.length = _ at hkk; rw [← hkn] at hkk; have hne : ((kn : Int) != 11) = true := (by rw [bne_iff_ne]; intro e; exact Hbad.out (by omega)); rw [← hkn]; clear hF hbare he hkk hkn; simp only [icells])
    | ((with_reducible show wpList _ _ _ (⟨none, Op.store _ _ (Operand.tmp 17), _, _, _, _⟩ :: _) _ _); refine wpList_storeA (o := ⟨none, _, _, _, _, _⟩) (by rfl) 128 (.tmp 4) (.tmp 17) (by rfl) w1.heap.size [.bool l, .slice ta t.length tc, .slice ka kn kc] (by rfl) (by rfl) aggItem (Blk.new w1 128 [.bool false, .slice none 0 0, .slice none 0 0]) (by rfl) (by rfl) (by intro u hu; simp at hu; rcases hu with rfl | rfl | rfl <;> rfl) (((Below.refl w1.heap.size w1).alloc (Nat.le_refl _) (.cells #[.bool false, .slice none 0 0, .slice none 0 0] 128))) (Nat.le_refl _) ?_; intro w4 h4 b4 _; have hz4 := hz1.kept b4; have hbel4 := Below.then hbel1 b4; have c42 : w4.cell? ⟨w1.heap.size, 2, none⟩ = some (.slice ka kn kc) := h4.cell 2)
    | ((with_reducible show wpList _ _ _ (⟨none, Op.store _ _ (Operand.tmp 27), _, _, _, _⟩ :: _) _ _); refine wpList_storeA (o := ⟨none, _, _, _, _, _⟩) (by rfl) 28 (.tmp 2) (.tmp 27) (by rfl) w.heap.size (hdcs zH) (by rfl) (by first | rfl | exact congrArg Value.agg zcHd) aggHd hz4 hl204 hl204 (hdcs_one _) hbel4 (Nat.le_refl _) ?_; intro w5 hh5 hbel5 _))
  exact bodyPost_ret (v := .tuple #[.agg (hdcs zH).toArray, .int .i64 1]) (results_blk_tmp rfl _ _ w.heap.size aggHd hh5 hl204 rfl rfl) rfl (Hpost.out _ hbel5)
end Go.Proofs.Ytffkjjpjfehcnaa
