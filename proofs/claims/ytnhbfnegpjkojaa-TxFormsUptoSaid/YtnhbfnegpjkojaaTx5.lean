/- tx.Read: bytes that are no transaction. -/
import Derived.Test.YtnhbfnegpjkojaaTx3
import Derived.Test.YtnhbfnegpjkojaaBeq
import Derived.Test.YtnhbfnegpjkojaaSplD
set_option linter.unusedSimpArgs false
set_option linter.unusedVariables false
namespace Go.Proofs.Ytnhbfnegpjkojaa
open Go.RowKit
theorem aggTx : Agg Try.prog 77 25 := ⟨_, Try.underlying77, rfl, by kernel_rfl⟩
/-- what reading answers -/
def ReadX (b : List UInt8) (w : World) (e : Ending) (w' : World) : Prop := ∃ H E a n c, e = .returned (.tuple #[.agg (txcs H (.slice a n c)).toArray, .int .i64 E]) ∧ H.Ok ∧ RdX b H E ∧ Bytes w' (.slice a n c) H.dat ∧ Below w.heap.size w w'
set_option maxHeartbeats 2000000 in
set_option maxRecDepth 100000 in
theorem xread_bad (a : Option Addr) (L c : Nat) (b : List UInt8) (hL : b.length = L) (hLs : L ≤ 1048576) (hbad : decE b ≠ 0 ∨ (decE b = 0 ∧ kidsN (decP b) ≠ 8) ∨ (decE b = 0 ∧ kidsN (decP b) = 8 ∧ ((kidT (decP b))[0]?.getD []).length ≠ 8) ∨ (decE b = 0 ∧ kidsN (decP b) = 8 ∧ ((kidT (decP b))[0]?.getD []).length = 8 ∧ ((kidT (decP b))[1]?.getD []).length ≠ 8)) (w : World) (h : Bytes w (.slice a L c) b) : Calls Try.prog 36 #[.slice a L c] w (ReadX b w) := by
  have hform : RdX b zX 1 := by
    refine rdx_form ?_
    rcases hbad with h | h | h | h
    · exact .inl h
    · exact .inr (.inl h.2)
    · exact .inr (.inr (.inl h.2.2))
    · exact .inr (.inr (.inr h.2.2.2))
  have hpost : ∀ u, Below w.heap.size w u → ReadX b w (.returned (.tuple #[.agg (txcs zX (.slice none 0 0)).toArray, .int .i64 1])) u := fun u hu => ⟨zX, 1, none, 0, 0, rfl, zX_ok, hform, RowOf.nil b8 1 u, hu⟩
  have hz := Blk.new w 77 (txcs zX (.slice none 0 0))
  have hbel : Below w.heap.size w (w.alloc (.cells (txcs zX (.slice none 0 0)).toArray 77)) := (Below.refl _ _).alloc (Nat.le_refl _) _
  have cc := fun u (hu : Bytes u (.slice a L c) b) => decode_any a L c b hL hLs u hu
  have Hpost := Lib.hid hpost
  rcases hbad with hbad | ⟨hE, hbad⟩ | ⟨hE, h8, hbad⟩ | ⟨hE, h8, h0, hbad⟩
  · have hE := decE_01 b hbad
    rw [hE] at cc
    have C := Lib.hid cc
    clear cc hE hbad hL hLs hpost
    go_enter Try.func36, Try.ntmps36
    go_wp2_with (first
      | (go_at_call 83; (with_reducible refine (C.out _ (h.alloc _)).mono ?_); rintro e w1 ⟨it, rfl, b1, hF, hbare, he, _⟩; have hz1 := hz.kept b1; have hbel1 := Below.then hbel b1; obtain ⟨l, tv, t, kv, ks⟩ := it; obtain ⟨ta, tc, rfl, _, _⟩ := hF.is.inv.1.form; obtain ⟨ka, kc, rfl, _, _⟩ := hF.is.inv.2.1.form; obtain ⟨kn, hkn⟩ : ∃ kn, kn = ks.length := ⟨_, rfl⟩; rw [← hkn]; clear hF hbare he hkn; simp only [icells])
      | ((with_reducible show wpList _ _ _ (⟨none, Op.store _ _ (Operand.tmp 16), _, _, _, _⟩ :: _) _ _); refine wpList_storeA (o := ⟨none, _, _, _, _, _⟩) (by rfl) 156 (.tmp 4) (.tmp 16) (by rfl) w1.heap.size [.bool l, .slice ta t.length tc, .slice ka kn kc] (by rfl) (by rfl) aggItem (Blk.new w1 156 [.bool false, .slice none 0 0, .slice none 0 0]) (by rfl) (by rfl) (by intro u hu; simp at hu; rcases hu with rfl | rfl | rfl <;> rfl) (((Below.refl w1.heap.size w1).alloc (Nat.le_refl _) (.cells #[.bool false, .slice none 0 0, .slice none 0 0] 156))) (Nat.le_refl _) ?_; intro w4 h4 b4 _; have hz4 := hz1.kept b4; have hbel4 := Below.then hbel1 b4; have c42 : w4.cell? ⟨w1.heap.size, 2, none⟩ = some (.slice ka kn kc) := h4.cell 2)
      | ((with_reducible show wpList _ _ _ (⟨none, Op.store _ _ (Operand.tmp 44), _, _, _, _⟩ :: _) _ _); refine wpList_storeA (o := ⟨none, _, _, _, _, _⟩) (by rfl) 77 (.tmp 2) (.tmp 44) (by rfl) w.heap.size (txcs zX (.slice none 0 0)) (by rfl) (by rfl) aggTx hz4 (by rfl) (by rfl) (txcs_one _ _ _ _) hbel4 (Nat.le_refl _) ?_; intro w5 hh5 hbel5 _))
    exact bodyPost_ret (v := .tuple #[.agg (txcs zX (.slice none 0 0)).toArray, .int .i64 1]) (results_blk_tmp rfl _ _ w.heap.size aggTx hh5 (by rfl) rfl rfl) rfl (Hpost.out _ hbel5)
  · rw [hE] at cc
    have C := Lib.hid cc
    have Hbad := Lib.hid hbad
    clear cc hE hbad hL hLs hpost
    go_enter Try.func36, Try.ntmps36
    go_wp2_with (first
      | (go_at_call 83; (with_reducible refine (C.out _ (h.alloc _)).mono ?_); rintro e w1 ⟨it, rfl, b1, hF, hbare, he, _⟩; have hz1 := hz.kept b1; have hbel1 := Below.then hbel b1; obtain ⟨l, tv, t, kv, ks⟩ := it; have hkk := (kids_of hbare he).1; obtain ⟨ta, tc, rfl, _, _⟩ := hF.is.inv.1.form; obtain ⟨ka, kc, rfl, _, _⟩ := hF.is.inv.2.1.form; obtain ⟨kn, hkn⟩ : ∃ kn, kn = ks.length := ⟨_, rfl⟩; change ks.length = _ at hkk; rw [← hkn] at hkk; have hne : ((kn : Int) != 8) = true := (by rw [bne_iff_ne]; intro e; exact Hbad.out (by omega)); rw [← hkn]; clear hF hbare he hkk hkn; simp only [icells])
      | ((with_reducible show wpList _ _ _ (⟨none, Op.store _ _ (Operand.tmp 16), _, _, _, _⟩ :: _) _ _); refine wpList_storeA (o := ⟨none, _, _, _, _, _⟩) (by rfl) 156 (.tmp 4) (.tmp 16) (by rfl) w1.heap.size [.bool l, .slice ta t.length tc, .slice ka kn kc] (by rfl) (by rfl) aggItem (Blk.new w1 156 [.bool false, .slice none 0 0, .slice none 0 0]) (by rfl) (by rfl) (by intro u hu; simp at hu; rcases hu with rfl | rfl | rfl <;> rfl) (((Below.refl w1.heap.size w1).alloc (Nat.le_refl _) (.cells #[.bool false, .slice none 0 0, .slice none 0 0] 156))) (Nat.le_refl _) ?_; intro w4 h4 b4 _; have hz4 := hz1.kept b4; have hbel4 := Below.then hbel1 b4; have c42 : w4.cell? ⟨w1.heap.size, 2, none⟩ = some (.slice ka kn kc) := h4.cell 2)
      | ((with_reducible show wpList _ _ _ (⟨none, Op.store _ _ (Operand.tmp 44), _, _, _, _⟩ :: _) _ _); refine wpList_storeA (o := ⟨none, _, _, _, _, _⟩) (by rfl) 77 (.tmp 2) (.tmp 44) (by rfl) w.heap.size (txcs zX (.slice none 0 0)) (by rfl) (by rfl) aggTx hz4 (by rfl) (by rfl) (txcs_one _ _ _ _) hbel4 (Nat.le_refl _) ?_; intro w5 hh5 hbel5 _))
    exact bodyPost_ret (v := .tuple #[.agg (txcs zX (.slice none 0 0)).toArray, .int .i64 1]) (results_blk_tmp rfl _ _ w.heap.size aggTx hh5 (by rfl) rfl rfl) rfl (Hpost.out _ hbel5)
  · rw [hE] at cc
    have C := Lib.hid cc
    obtain ⟨n0, hn0⟩ : ∃ n, n = ((kidT (decP b))[0]?.getD []).length := ⟨_, rfl⟩
    rw [← hn0] at hbad
    have hne : ((n0 : Int) != 8) = true := by rw [bne_iff_ne]; omega
    have N0 := Lib.hid hn0
    have H8 := Lib.hid h8
    clear cc hE hbad hL hLs hpost hn0 h8
    go_enter Try.func36, Try.ntmps36
    go_wp2_with (first
      | (go_at_call 83; (with_reducible refine (C.out _ (h.alloc _)).mono ?_); rintro e w1 ⟨it, rfl, b1, hF, hbare, he, _⟩; have hz1 := hz.kept b1; have hbel1 := Below.then hbel b1; obtain ⟨l, tv, t, kv, ks⟩ := it; obtain ⟨hkk, _, hkt⟩ := kids_of hbare he; change ks.length = _ at hkk; change ks.map itt = _ at hkt; rw [H8.out] at hkk; obtain ⟨ta, tc, rfl, _, _⟩ := hF.is.inv.1.form; have hrow := hF.is.inv.2.1; have hkids := hF.is.inv.2.2; obtain ⟨ka, kc, rfl, _⟩ := hrow.form' 8 hkk; obtain ⟨kb, ko, rfl, hkx⟩ := kid_texts hrow hkids (by omega); rw [hkt] at hkx; obtain ⟨ta0, tc0, h0t⟩ := hkx 0 (by omega); rw [← N0.out] at h0t; clear hF hbare he hkk hkt hrow hkids hkx; simp only [icells])
      | ((with_reducible show wpList _ _ _ (⟨none, Op.store _ _ (Operand.tmp 16), _, _, _, _⟩ :: _) _ _); refine wpList_storeA (o := ⟨none, _, _, _, _, _⟩) (by rfl) 156 (.tmp 4) (.tmp 16) (by rfl) w1.heap.size [.bool l, .slice ta t.length tc, .slice (some ⟨kb, ko, none⟩) 8 kc] (by rfl) (by rfl) aggItem (Blk.new w1 156 [.bool false, .slice none 0 0, .slice none 0 0]) (by rfl) (by rfl) (by intro u hu; simp at hu; rcases hu with rfl | rfl | rfl <;> rfl) (((Below.refl w1.heap.size w1).alloc (Nat.le_refl _) (.cells #[.bool false, .slice none 0 0, .slice none 0 0] 156))) (Nat.le_refl _) ?_; intro w4 h4 b4 _; have hz4 := hz1.kept b4; have hbel4 := Below.then hbel1 b4; have c42 : w4.cell? ⟨w1.heap.size, 2, none⟩ = some (.slice (some ⟨kb, ko, none⟩) 8 kc) := h4.cell 2; have q0 : w4.cell? ⟨kb, ko + 1, none⟩ = some (.slice ta0 n0 tc0) := (h0t w4 b4).1)
      | ((with_reducible show wpList _ _ _ (⟨none, Op.store _ _ (Operand.tmp 44), _, _, _, _⟩ :: _) _ _); refine wpList_storeA (o := ⟨none, _, _, _, _, _⟩) (by rfl) 77 (.tmp 2) (.tmp 44) (by rfl) w.heap.size (txcs zX (.slice none 0 0)) (by rfl) (by rfl) aggTx hz4 (by rfl) (by rfl) (txcs_one _ _ _ _) hbel4 (Nat.le_refl _) ?_; intro w5 hh5 hbel5 _))
    exact bodyPost_ret (v := .tuple #[.agg (txcs zX (.slice none 0 0)).toArray, .int .i64 1]) (results_blk_tmp rfl _ _ w.heap.size aggTx hh5 (by rfl) rfl rfl) rfl (Hpost.out _ hbel5)
  · rw [hE] at cc
    have C := Lib.hid cc
    obtain ⟨n0, hn0⟩ : ∃ n, n = ((kidT (decP b))[0]?.getD []).length := ⟨_, rfl⟩
    rw [← hn0] at h0
    obtain ⟨n1, hn1⟩ : ∃ n, n = ((kidT (decP b))[1]?.getD []).length := ⟨_, rfl⟩
    rw [← hn1] at hbad
    have hne0 : ((n0 : Int) != 8) = false := by rw [h0]; rfl
    have hne1 : ((n1 : Int) != 8) = true := by rw [bne_iff_ne]; omega
    have N0 := Lib.hid hn0
    have N1 := Lib.hid hn1
    have H8 := Lib.hid h8
    clear cc hE hbad hL hLs hpost hn0 hn1 h8 h0
    go_enter Try.func36, Try.ntmps36
    go_wp2_with (first
      | (go_at_call 83; (with_reducible refine (C.out _ (h.alloc _)).mono ?_); rintro e w1 ⟨it, rfl, b1, hF, hbare, he, _⟩; have hz1 := hz.kept b1; have hbel1 := Below.then hbel b1; obtain ⟨l, tv, t, kv, ks⟩ := it; obtain ⟨hkk, _, hkt⟩ := kids_of hbare he; change ks.length = _ at hkk; change ks.map itt = _ at hkt; rw [H8.out] at hkk; obtain ⟨ta, tc, rfl, _, _⟩ := hF.is.inv.1.form; have hrow := hF.is.inv.2.1; have hkids := hF.is.inv.2.2; obtain ⟨ka, kc, rfl, _⟩ := hrow.form' 8 hkk; obtain ⟨kb, ko, rfl, hkx⟩ := kid_texts hrow hkids (by omega); rw [hkt] at hkx; obtain ⟨ta0, tc0, h0t⟩ := hkx 0 (by omega); rw [← N0.out] at h0t; obtain ⟨ta1, tc1, h1t⟩ := hkx 1 (by omega); rw [← N1.out] at h1t; clear hF hbare he hkk hkt hrow hkids hkx; simp only [icells])
      | ((with_reducible show wpList _ _ _ (⟨none, Op.store _ _ (Operand.tmp 16), _, _, _, _⟩ :: _) _ _); refine wpList_storeA (o := ⟨none, _, _, _, _, _⟩) (by rfl) 156 (.tmp 4) (.tmp 16) (by rfl) w1.heap.size [.bool l, .slice ta t.length tc, .slice (some ⟨kb, ko, none⟩) 8 kc] (by rfl) (by rfl) aggItem (Blk.new w1 156 [.bool false, .slice none 0 0, .slice none 0 0]) (by rfl) (by rfl) (by intro u hu; simp at hu; rcases hu with rfl | rfl | rfl <;> rfl) (((Below.refl w1.heap.size w1).alloc (Nat.le_refl _) (.cells #[.bool false, .slice none 0 0, .slice none 0 0] 156))) (Nat.le_refl _) ?_; intro w4 h4 b4 _; have hz4 := hz1.kept b4; have hbel4 := Below.then hbel1 b4; have c42 : w4.cell? ⟨w1.heap.size, 2, none⟩ = some (.slice (some ⟨kb, ko, none⟩) 8 kc) := h4.cell 2; have q0 : w4.cell? ⟨kb, ko + 1, none⟩ = some (.slice ta0 n0 tc0) := (h0t w4 b4).1; have q1 : w4.cell? ⟨kb, ko + 3 + 1, none⟩ = some (.slice ta1 n1 tc1) := (h1t w4 b4).1)
      | ((with_reducible show wpList _ _ _ (⟨none, Op.store _ _ (Operand.tmp 44), _, _, _, _⟩ :: _) _ _); refine wpList_storeA (o := ⟨none, _, _, _, _, _⟩) (by rfl) 77 (.tmp 2) (.tmp 44) (by rfl) w.heap.size (txcs zX (.slice none 0 0)) (by rfl) (by rfl) aggTx hz4 (by rfl) (by rfl) (txcs_one _ _ _ _) hbel4 (Nat.le_refl _) ?_; intro w5 hh5 hbel5 _))
    exact bodyPost_ret (v := .tuple #[.agg (txcs zX (.slice none 0 0)).toArray, .int .i64 1]) (results_blk_tmp rfl _ _ w.heap.size aggTx hh5 (by rfl) rfl rfl) rfl (Hpost.out _ hbel5)
end Go.Proofs.Ytnhbfnegpjkojaa
