/- block.Read: bytes that are no header. -/
import Derived.Test.YtffkjjpjfehcnaaHdr8
import Derived.Test.YtffkjjpjfehcnaaHdr6
import Derived.Test.YtffkjjpjfehcnaaHdr5
set_option linter.unusedSimpArgs false
set_option linter.unusedVariables false
namespace Go.Proofs.Ytffkjjpjfehcnaa
open Go.RowKit
theorem zcHd : Try.zeroCells28 = (hdcs zH).toArray := by kernel_rfl
/-- what reading answers -/
def ReadC (b : List UInt8) (w : World) (e : Ending) (w' : World) : Prop := ∃ H E, e = .returned (.tuple #[.agg (hdcs H).toArray, .int .i64 E]) ∧ H.Ok ∧ RdHd b H E ∧ Below w.heap.size w w'
structure RdW (w w1 : World) (g4 gh : Nat) (box cs : List Value) (u : World) : Prop where
  hb : Below w.heap.size w u
  hk : Below w1.heap.size w1 u
  hz : Blk 28 u w.heap.size (hdcs zH)
  h4 : Blk 128 u g4 box
  hh : Blk 28 u gh cs
  h0 : w.heap.size < w1.heap.size
  h1 : w1.heap.size ≤ g4
  h2 : g4 < gh
theorem RdW.kept {w w1 u u' : World} {g4 gh : Nat} {box cs : List Value} (h : RdW w w1 g4 gh box cs u) (hb : Below u.heap.size u u') : RdW w w1 g4 gh box cs u' :=
  ⟨Below.then h.hb hb, Below.then h.hk hb, h.hz.kept hb, h.h4.kept hb, h.hh.kept hb, h.h0, h.h1, h.h2⟩
theorem RdW.set {w w1 u : World} {g4 gh : Nat} {box cs : List Value} (h : RdW w w1 g4 gh box cs u) (i : Nat) (v : Value) : RdW w w1 g4 gh box (cs.set i v) (u.setCell ⟨gh, i, none⟩ v) := by
  have h0 := h.h0
  have h1 := h.h1
  have h2 := h.h2
  exact ⟨h.hb.setCell (by show _ ≤ gh; omega) _, h.hk.setCell (by show _ ≤ gh; omega) _, h.hz.other _ (by simp; omega) _, h.h4.other _ (by simp; omega) _, h.hh.set i v, h0, h1, h2⟩
theorem RdW.put {w w1 u u' : World} {g4 gh : Nat} {box cs cs' : List Value} (h : RdW w w1 g4 gh box cs u) (hb : Below gh u u') (hh : Blk 28 u' gh cs') : RdW w w1 g4 gh box cs' u' := by
  have h0 := h.h0
  have h1 := h.h1
  have h2 := h.h2
  exact ⟨h.hb.trans (hb.mono (by omega)), h.hk.trans (hb.mono (by omega)), h.hz.below hb (by omega), h.h4.below hb (by omega), hh, h0, h1, h2⟩
theorem decE_01 (b : List UInt8) (h : decE b ≠ 0) : decE b = 1 := by
  unfold decE at h ⊢
  split at h
  · exact absurd rfl h
  · rename_i hn; rw [if_neg hn]
set_option maxHeartbeats 2000000 in
set_option maxRecDepth 100000 in
theorem read_bad1 (a : Option Addr) (L c : Nat) (b : List UInt8) (hL : b.length = L) (hLs : L ≤ 1048576) (hbad : decE b ≠ 0) (w : World) (h : Bytes w (.slice a L c) b) : Calls Try.prog 14 #[.slice a L c] w (ReadC b w) := by
  have hE := decE_01 b hbad
  have hpost : ∀ u, Below w.heap.size w u → ReadC b w (.returned (.tuple #[.agg (hdcs zH).toArray, .int .i64 1])) u := fun u hu => ⟨zH, 1, rfl, zH_ok, rd_form (.inl hbad), hu⟩
  have hz : Blk 28 (w.alloc (.cells Try.zeroCells28 28)) w.heap.size (hdcs zH) := by rw [zcHd]; exact Blk.new w _ _
  have hbel : Below w.heap.size w (w.alloc (.cells Try.zeroCells28 28)) := (Below.refl _ _).alloc (Nat.le_refl _) _
  have hlt0 := hz.lt
  have cc := fun u (hu : Bytes u (.slice a L c) b) => decode_any a L c b hL hLs u hu
  rw [hE] at cc
  have C := Lib.hid cc
  have Hpost := Lib.hid hpost
  have hl204 := hdcs_len zH_ok
  clear cc hE hbad hL hLs hpost
  go_enter Try.func14, Try.ntmps14
  go_wp2_with (first
    | (go_at_call 74; (with_reducible refine (C.out _ (h.alloc _)).mono ?_); rintro e w1 ⟨it, rfl, b1, hF, hbare, he, _⟩; have hz1 := hz.kept b1; have hbel1 := Below.then hbel b1; have hs1 := Nat.lt_of_lt_of_le hlt0 b1.size; obtain ⟨l, tv, t, kv, ks⟩ := it; obtain ⟨ta, tc, rfl, _, _⟩ := hF.is.inv.1.form; obtain ⟨ka, kc, rfl, _, _⟩ := hF.is.inv.2.1.form; clear hF hbare he; simp only [icells])
    | ((with_reducible show wpList _ _ _ (⟨none, Op.store _ _ (Operand.tmp 17), _, _, _, _⟩ :: _) _ _); refine wpList_storeA (o := ⟨none, _, _, _, _, _⟩) (by rfl) 128 (.tmp 4) (.tmp 17) (by rfl) w1.heap.size [.bool l, .slice ta t.length tc, .slice ka ks.length kc] (by rfl) (by rfl) aggItem (Blk.new w1 128 [.bool false, .slice none 0 0, .slice none 0 0]) (by rfl) (by rfl) (by intro u hu; simp at hu; rcases hu with rfl | rfl | rfl <;> rfl) (((Below.refl w1.heap.size w1).alloc (Nat.le_refl _) (.cells #[.bool false, .slice none 0 0, .slice none 0 0] 128))) (Nat.le_refl _) ?_; intro w4 h4 b4 _; have hz4 := hz1.kept b4; have hbel4 := Below.then hbel1 b4)
    | ((with_reducible show wpList _ _ _ (⟨none, Op.store _ _ (Operand.tmp 27), _, _, _, _⟩ :: _) _ _); refine wpList_storeA (o := ⟨none, _, _, _, _, _⟩) (by rfl) 28 (.tmp 2) (.tmp 27) (by rfl) w.heap.size (hdcs zH) (by rfl) (by first | rfl | exact congrArg Value.agg zcHd) aggHd hz4 hl204 hl204 (hdcs_one _) hbel4 (Nat.le_refl _) ?_; intro w5 hh5 hbel5 _))
  exact bodyPost_ret (v := .tuple #[.agg (hdcs zH).toArray, .int .i64 1]) (results_blk_tmp rfl _ _ w.heap.size aggHd hh5 hl204 rfl rfl) rfl (Hpost.out _ hbel5)
end Go.Proofs.Ytffkjjpjfehcnaa
