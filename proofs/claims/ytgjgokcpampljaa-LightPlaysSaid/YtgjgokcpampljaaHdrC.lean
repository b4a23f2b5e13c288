/- What block.Read needs: copies that cut, the fields that are set one after the other. | What reading a header's bytes answers, as it is read: plain Lean. | block.Read: bytes that are no header. | block.Read: an item that has not eleven kids. | block.Read: eleven kids. -/
import Derived.Test.YtgjgokcpampljaaHdrA
import Derived.Test.YtgjgokcpampljaaKid0
import Derived.Test.YtgjgokcpampljaaHdrB
import Derived.Test.YtgjgokcpampljaaBeq
/- (Hdr5) What block.Read needs: copies that cut, the fields that are set one after the other. -/
set_option linter.unusedSimpArgs false
set_option linter.unusedVariables false
namespace Go.Proofs.Ytgjgokcpampljaa
open Go.RowKit
theorem by8_take (n : Nat) (m : List UInt8) : by8 (m.take n) = (by8 m).take n := by unfold by8; rw [List.map_take]
/-- 'copy(own[off:off+n], src)': as much as fits -/
theorem wpList_copyMin {P : Program} {w : World} {ops : Array Oper} {rest : List Oper} {o : Oper} {a : Act} {Q : Exit → Act → World → Prop} (hgd : o.guard = none) (d s : Operand) (dT sT : TypeId)
    (ho : o.op = .call { callee := .builtin .copy, args := #[d, s], argTypes := #[dT, sT] }) {e t : TypeId} {z : Value} {bytes : Nat} (el : El P dT t z 1 bytes b8)
    (g off dLen dCap : Nat) (hd : a.eval d = .slice (some ⟨g, off, none⟩) dLen dCap) (u : Value) (m : List UInt8) (hs : a.eval s = u) (hrow : Bytes w u m)
    (cur : List Value) (hg : Blk e w g cur) (hfit : off + dLen ≤ cur.length)
    (h : ∀ w', Blk e w' g (splice cur off (by8 (m.take dLen))) → Below g w w' → wpList P ops Q rest (a.put o.dst (goInt (m.take dLen).length)) w') :
    wpList P ops Q (o :: rest) a w := by
  obtain ⟨i, hi, hz, hsi, hby⟩ := el.info
  obtain ⟨h0, ad, c, rfl, _, _, h3⟩ := hrow
  have hl : (by8 (m.take dLen)).length = Nat.min m.length dLen := by rw [by8_len, List.length_take]; exact Nat.min_comm _ _
  have hle : (by8 (m.take dLen)).length ≤ dLen := by rw [hl]; exact Nat.min_le_right _ _
  have hle2 : (by8 (m.take dLen)).length ≤ m.length := by rw [hl]; exact Nat.min_le_left _ _
  refine wpList_copy_splice hgd d s dT sT ho t el.ht (by rw [hi]; simp [hsi]) _ ad dLen dCap m.length c hd hs g off cur e hg (by8 (m.take dLen)) hl ?_ (by omega) ?_ g w (Below.refl _ _) (Nat.le_refl _) ?_
  · intro hpos
    rcases h3 with ⟨_, hm, _⟩ | ⟨b, o2, sp, rfl, hsp, h3⟩
    · rw [hl, hm] at hpos; simp at hpos
    · obtain rfl : sp = none := hsp.resolve_right (by omega)
      refine ⟨rfl, _, rfl, fun j v hv => ?_⟩
      have hadd : (⟨b, o2, none⟩ : Addr).add j = ⟨b, o2 + j, none⟩ := by unfold Addr.add; split <;> simp_all
      rw [hadd]
      refine h3 j v ?_
      rw [flat_b8]
      have hj : j < dLen := by
        have := (List.getElem?_eq_some_iff.1 hv).1
        omega
      rw [by8_take, List.getElem?_take_of_lt hj] at hv
      exact hv
  · intro u hu
    obtain ⟨x, _, rfl⟩ := List.mem_map.1 hu
    rfl
  · rw [by8_len]
    exact fun w' h1 h2 => h w' h1.out h2
theorem splice_at (A C : List Value) (X t : List UInt8) (off n : Nat) (hA : A.length = off) (hX : X = zeroB n) : splice (A ++ (by8 X ++ C)) off (by8 (t.take n)) = A ++ (by8 (cpy n t) ++ C) := by
  subst hX
  have hl : (by8 (t.take n)).length = min n t.length := by rw [by8_len, List.length_take]
  have hz : (by8 (zeroB n)).length = n := by rw [by8_len]; unfold zeroB; simp
  unfold splice
  rw [List.take_left' hA, ← List.drop_drop, List.drop_left' hA, List.drop_append_of_le_length (by omega), hl]
  have : (by8 (zeroB n)).drop (min n t.length) = by8 (List.replicate (n - t.length) 0) := by
    unfold by8 zeroB
    rw [← List.map_drop, List.drop_replicate]
    congr 2
    omega
  rw [this]
  unfold cpy by8
  rw [List.map_append]
  simp only [List.append_assoc]
section
variable {h : Hd} (k : h.Ok)
include k
theorem hdcs_setNum (n : Nat) : (hdcs h).set 32 (u64v n) = hdcs { h with num := n } := by
  unfold hdcs
  rw [List.set_append_right _ _ (by rw [by8_len, k.par]; omega), by8_len, k.par]; rfl
theorem hdcs_setTim (n : Nat) : (hdcs h).set 33 (u64v n) = hdcs { h with tim := n } := by
  unfold hdcs
  rw [List.set_append_right _ _ (by rw [by8_len, k.par]; omega), by8_len, k.par]; rfl
theorem hdcs_setLim (n : Nat) : (hdcs h).set 42 (u64v n) = hdcs { h with lim := n } := by
  have e : ∀ x, hdcs { h with lim := x } = (by8 h.par ++ ([u64v h.num] ++ ([u64v h.tim] ++ by8 h.kee))) ++ ([u64v x] ++ ([u64v h.use] ++ (by8 h.blo ++ (by8 h.sta ++ (by8 h.txs ++ (by8 h.rcs ++ by8 h.nex)))))) := by intro x; unfold hdcs; simp only [List.append_assoc]
  have hl : (by8 h.par ++ ([u64v h.num] ++ ([u64v h.tim] ++ by8 h.kee))).length = 42 := by simp only [List.length_append, by8_len, k.par, k.kee, List.length_cons, List.length_nil]
  rw [e n]
  have := e h.lim
  rw [show ({ h with lim := h.lim } : Hd) = h from rfl] at this
  rw [this, List.set_append_right _ _ (by rw [hl]; omega), hl]; rfl
theorem hdcs_setUse (n : Nat) : (hdcs h).set 43 (u64v n) = hdcs { h with use := n } := by
  have e : ∀ x, hdcs { h with use := x } = (by8 h.par ++ ([u64v h.num] ++ ([u64v h.tim] ++ by8 h.kee))) ++ ([u64v h.lim] ++ ([u64v x] ++ (by8 h.blo ++ (by8 h.sta ++ (by8 h.txs ++ (by8 h.rcs ++ by8 h.nex)))))) := by intro x; unfold hdcs; simp only [List.append_assoc]
  have hl : (by8 h.par ++ ([u64v h.num] ++ ([u64v h.tim] ++ by8 h.kee))).length = 42 := by simp only [List.length_append, by8_len, k.par, k.kee, List.length_cons, List.length_nil]
  rw [e n]
  have := e h.use
  rw [show ({ h with use := h.use } : Hd) = h from rfl] at this
  rw [this, List.set_append_right _ _ (by rw [hl]; omega), hl]; rfl
omit k in
theorem hdcs_cpPar (z : h.par = zeroB 32) (t : List UInt8) : splice (hdcs h) 0 (by8 (t.take 32)) = hdcs { h with par := cpy 32 t } :=
  splice_at [] _ _ t 0 32 rfl z
theorem hdcs_cpKee (z : h.kee = zeroB 8) (t : List UInt8) : splice (hdcs h) 34 (by8 (t.take 8)) = hdcs { h with kee := cpy 8 t } := by
  have e : ∀ x, hdcs { h with kee := x } = (by8 h.par ++ ([u64v h.num] ++ [u64v h.tim])) ++ (by8 x ++ ([u64v h.lim] ++ ([u64v h.use] ++ (by8 h.blo ++ (by8 h.sta ++ (by8 h.txs ++ (by8 h.rcs ++ by8 h.nex))))))) := by intro x; unfold hdcs; simp only [List.append_assoc]
  rw [e (cpy 8 t)]
  have := e h.kee
  rw [show ({ h with kee := h.kee } : Hd) = h from rfl] at this
  rw [this]
  exact splice_at _ _ _ t 34 8 (by simp only [List.length_append, by8_len, k.par, List.length_cons, List.length_nil]) z
theorem hdcs_cpBlo (z : h.blo = zeroB 32) (t : List UInt8) : splice (hdcs h) 44 (by8 (t.take 32)) = hdcs { h with blo := cpy 32 t } := by
  have e : ∀ x, hdcs { h with blo := x } = (by8 h.par ++ ([u64v h.num] ++ ([u64v h.tim] ++ (by8 h.kee ++ ([u64v h.lim] ++ [u64v h.use]))))) ++ (by8 x ++ (by8 h.sta ++ (by8 h.txs ++ (by8 h.rcs ++ by8 h.nex)))) := by intro x; unfold hdcs; simp only [List.append_assoc]
  rw [e (cpy 32 t)]
  have := e h.blo
  rw [show ({ h with blo := h.blo } : Hd) = h from rfl] at this
  rw [this]
  exact splice_at _ _ _ t 44 32 (by simp only [List.length_append, by8_len, k.par, k.kee, List.length_cons, List.length_nil]) z
theorem hdcs_cpSta (z : h.sta = zeroB 32) (t : List UInt8) : splice (hdcs h) 76 (by8 (t.take 32)) = hdcs { h with sta := cpy 32 t } := by
  have e : ∀ x, hdcs { h with sta := x } = (by8 h.par ++ ([u64v h.num] ++ ([u64v h.tim] ++ (by8 h.kee ++ ([u64v h.lim] ++ ([u64v h.use] ++ by8 h.blo)))))) ++ (by8 x ++ (by8 h.txs ++ (by8 h.rcs ++ by8 h.nex))) := by intro x; unfold hdcs; simp only [List.append_assoc]
  rw [e (cpy 32 t)]
  have := e h.sta
  rw [show ({ h with sta := h.sta } : Hd) = h from rfl] at this
  rw [this]
  exact splice_at _ _ _ t 76 32 (by simp only [List.length_append, by8_len, k.par, k.kee, k.blo, List.length_cons, List.length_nil]) z
theorem hdcs_cpTxs (z : h.txs = zeroB 32) (t : List UInt8) : splice (hdcs h) 108 (by8 (t.take 32)) = hdcs { h with txs := cpy 32 t } := by
  have e : ∀ x, hdcs { h with txs := x } = (by8 h.par ++ ([u64v h.num] ++ ([u64v h.tim] ++ (by8 h.kee ++ ([u64v h.lim] ++ ([u64v h.use] ++ (by8 h.blo ++ by8 h.sta))))))) ++ (by8 x ++ (by8 h.rcs ++ by8 h.nex)) := by intro x; unfold hdcs; simp only [List.append_assoc]
  rw [e (cpy 32 t)]
  have := e h.txs
  rw [show ({ h with txs := h.txs } : Hd) = h from rfl] at this
  rw [this]
  exact splice_at _ _ _ t 108 32 (by simp only [List.length_append, by8_len, k.par, k.kee, k.blo, k.sta, List.length_cons, List.length_nil]) z
theorem hdcs_cpRcs (z : h.rcs = zeroB 32) (t : List UInt8) : splice (hdcs h) 140 (by8 (t.take 32)) = hdcs { h with rcs := cpy 32 t } := by
  have e : ∀ x, hdcs { h with rcs := x } = (by8 h.par ++ ([u64v h.num] ++ ([u64v h.tim] ++ (by8 h.kee ++ ([u64v h.lim] ++ ([u64v h.use] ++ (by8 h.blo ++ (by8 h.sta ++ by8 h.txs)))))))) ++ (by8 x ++ by8 h.nex) := by intro x; unfold hdcs; simp only [List.append_assoc]
  rw [e (cpy 32 t)]
  have := e h.rcs
  rw [show ({ h with rcs := h.rcs } : Hd) = h from rfl] at this
  rw [this]
  exact splice_at _ _ _ t 140 32 (by simp only [List.length_append, by8_len, k.par, k.kee, k.blo, k.sta, k.txs, List.length_cons, List.length_nil]) z
theorem hdcs_cpNex (z : h.nex = zeroB 32) (t : List UInt8) : splice (hdcs h) 172 (by8 (t.take 32)) = hdcs { h with nex := cpy 32 t } := by
  have e : ∀ x, hdcs { h with nex := x } = (by8 h.par ++ ([u64v h.num] ++ ([u64v h.tim] ++ (by8 h.kee ++ ([u64v h.lim] ++ ([u64v h.use] ++ (by8 h.blo ++ (by8 h.sta ++ (by8 h.txs ++ by8 h.rcs))))))))) ++ (by8 x ++ []) := by intro x; unfold hdcs; simp only [List.append_assoc, List.append_nil]
  rw [e (cpy 32 t)]
  have := e h.nex
  rw [show ({ h with nex := h.nex } : Hd) = h from rfl] at this
  rw [this]
  exact splice_at _ _ _ t 172 32 (by simp only [List.length_append, by8_len, k.par, k.kee, k.blo, k.sta, k.txs, k.rcs, List.length_cons, List.length_nil]) z
end
/-- a header in the making: i of the numbers, j of the texts are there -/
def rdS (nf : List UInt8 → Nat) (ts : List (List UInt8)) (i j : Nat) : Hd :=
  let g := fun i => ts[i]?.getD []
  ⟨if 0 < j then cpy 32 (g 0) else zeroB 32, if 0 < i then nf (g 1) else 0, if 1 < i then nf (g 2) else 0, if 1 < j then cpy 8 (g 5) else zeroB 8, if 2 < i then nf (g 3) else 0, if 3 < i then nf (g 4) else 0,
   if 2 < j then cpy 32 (g 6) else zeroB 32, if 3 < j then cpy 32 (g 7) else zeroB 32, if 4 < j then cpy 32 (g 8) else zeroB 32, if 5 < j then cpy 32 (g 9) else zeroB 32, if 6 < j then cpy 32 (g 10) else zeroB 32⟩
theorem rdS_zero (nf : List UInt8 → Nat) (ts : List (List UInt8)) : rdS nf ts 0 0 = zH := rfl
theorem rdS_all (nf : List UInt8 → Nat) (ts : List (List UInt8)) : rdS nf ts 4 7 = rdH nf ts := rfl
theorem zeroB_len (n : Nat) : (zeroB n).length = n := by unfold zeroB; simp
theorem rdS_ok {nf : List UInt8 → Nat} (hf : ∀ t, nf t < 18446744073709551616) (ts : List (List UInt8)) (i j : Nat) : (rdS nf ts i j).Ok := by
  constructor <;> (unfold rdS; dsimp only; split) <;> first | exact cpy_len _ _ | exact zeroB_len _ | exact hf _ | decide
/-- where the numbers lie; where the texts lie, and how long, and which of the eleven it is -/
def nOff (i : Nat) : Nat := [32, 33, 42, 43][i]?.getD 0
def tOff (j : Nat) : Nat × Nat × Nat := [(0, 32, 0), (34, 8, 5), (44, 32, 6), (76, 32, 7), (108, 32, 8), (140, 32, 9), (172, 32, 10)][j]?.getD (0, 0, 0)
theorem rdS_num {nf : List UInt8 → Nat} (hf : ∀ t, nf t < 18446744073709551616) (ts : List (List UInt8)) (i : Nat) (hi : i < 4) : (hdcs (rdS nf ts i 0)).set (nOff i) (u64v (nf (ts[i + 1]?.getD []))) = hdcs (rdS nf ts (i + 1) 0) := by
  have k := fun i => rdS_ok hf ts i 0
  rcases (by omega : i = 0 ∨ i = 1 ∨ i = 2 ∨ i = 3) with rfl | rfl | rfl | rfl
  · exact hdcs_setNum (k 0) _
  · exact hdcs_setTim (k 1) _
  · exact hdcs_setLim (k 2) _
  · exact hdcs_setUse (k 3) _
theorem rdS_text {nf : List UInt8 → Nat} (hf : ∀ t, nf t < 18446744073709551616) (ts : List (List UInt8)) (j : Nat) (hj : j < 7) : splice (hdcs (rdS nf ts 4 j)) (tOff j).1 (by8 ((ts[(tOff j).2.2]?.getD []).take (tOff j).2.1)) = hdcs (rdS nf ts 4 (j + 1)) := by
  have k := fun j => rdS_ok hf ts 4 j
  rcases (by omega : j = 0 ∨ j = 1 ∨ j = 2 ∨ j = 3 ∨ j = 4 ∨ j = 5 ∨ j = 6) with rfl | rfl | rfl | rfl | rfl | rfl | rfl
  · exact hdcs_cpPar rfl _
  · exact hdcs_cpKee (k 1) rfl _
  · exact hdcs_cpBlo (k 2) rfl _
  · exact hdcs_cpSta (k 3) rfl _
  · exact hdcs_cpTxs (k 4) rfl _
  · exact hdcs_cpRcs (k 5) rfl _
  · exact hdcs_cpNex (k 6) rfl _
end Go.Proofs.Ytgjgokcpampljaa
/- (Hdr6) What reading a header's bytes answers, as it is read: plain Lean. -/
namespace Go.Proofs.Ytgjgokcpampljaa
open Go.RowKit
theorem dec_read {p : Pit} (h : (encP p).length < 18446744073709551616) : dec (encP p) = some p := by
  have h1 := par_read (encP p).length p [] (Nat.le_refl _) h
  rw [List.append_nil] at h1
  unfold dec
  rw [h1]
theorem kidT_txts (ts : List (List UInt8)) : kidT (.lst (ts.map .txt)) = ts := by
  show (ts.map Pit.txt).map pitT = ts
  rw [List.map_map]
  exact List.map_id' ts
theorem wH_dec {g : Hd} (k : g.Ok) : dec (wH g) = some (.lst ((hTs g).map .txt)) := by
  have hl := wH_len k
  unfold wH at hl ⊢
  rw [lsB_enc] at hl ⊢
  exact dec_read (by omega)
theorem rd_form {b : List UInt8} (h : decE b ≠ 0 ∨ kidsN (decP b) ≠ 11) : RdHd b zH 1 := by
  refine .inr ⟨rfl, rfl, fun g k e => ?_⟩
  have hd := wH_dec k
  rw [e] at hd
  rcases h with h | h
  · exact h (by unfold decE; rw [hd]; rfl)
  · exact h (by unfold decP; rw [hd]; rfl)
theorem rd_not {nf : List UInt8 → Nat} (hf : ∀ x < 18446744073709551616, nf (numB x) = x) {b : List UInt8} (h : wH (rdH nf (kidT (decP b))) ≠ b) : RdHd b zH 1 := by
  refine .inr ⟨rfl, rfl, fun g k e => ?_⟩
  have hd := wH_dec k
  rw [e] at hd
  have hp : decP b = .lst ((hTs g).map .txt) := by unfold decP; rw [hd]; rfl
  rw [hp, kidT_txts, rdH_self hf k] at h
  exact h e
theorem rd_yes {b : List UInt8} {h : Hd} (e : wH h = b) : RdHd b h 0 := .inl ⟨rfl, e⟩
theorem nfP_lt (t : List UInt8) : nfP t < 18446744073709551616 := by unfold nfP lim; omega
theorem nfR_lt (t : List UInt8) : nfR t < 18446744073709551616 := by unfold nfR lim; omega
end Go.Proofs.Ytgjgokcpampljaa
/- (Hdr9) block.Read: bytes that are no header. -/
namespace Go.Proofs.Ytgjgokcpampljaa
open Go.RowKit
theorem zcHd : Try.zeroCells28 = (hdcs zH).toArray := by kernel_rfl
/-- what reading answers -/
def ReadC (b : List UInt8) (w : World) (e : Ending) (w' : World) : Prop := ∃ H E, e = .returned (.tuple #[.agg (hdcs H).toArray, .int .i64 E]) ∧ H.Ok ∧ RdHd b H E ∧ Below w.heap.size w w'
structure RdW (w w1 : World) (g4 gh : Nat) (box cs : List Value) (u : World) : Prop where
  hb : Below w.heap.size w u
  hk : Below w1.heap.size w1 u
  hz : Blk 28 u w.heap.size (hdcs zH)
  h4 : Blk 155 u g4 box
  hh : Blk 28 u gh cs
  h0 : w.heap.size < w1.heap.size
  h1 : w1.heap.size ≤ g4
  h2 : g4 < gh
theorem RdW.kept {w w1 u u' : World} {g4 gh : Nat} {box cs : List Value} (h : RdW w w1 g4 gh box cs u) (hb : Below u.heap.size u u') : RdW w w1 g4 gh box cs u' :=
  ⟨Below.then h.hb hb, Below.then h.hk hb, h.hz.kept hb, h.h4.kept hb, h.hh.kept hb, h.h0, h.h1, h.h2⟩
theorem RdW.set {w w1 u : World} {g4 gh : Nat} {box cs : List Value} (h : RdW w w1 g4 gh box cs u) (i : Nat) (v : Value) : RdW w w1 g4 gh box (cs.set i v) (u.setCell ⟨gh, i, none⟩ v) := by
  have h0 := h.h0
  have h1 := h.h1
  have h2 := h.h2
  exact ⟨h.hb.setCell (by show _ ≤ gh; omega) _, h.hk.setCell (by show _ ≤ gh; omega) _, h.hz.other _ (by simp; omega) _, h.h4.other _ (by simp; omega) _, h.hh.set i v, h0, h1, h2⟩
theorem RdW.put {w w1 u u' : World} {g4 gh : Nat} {box cs cs' : List Value} (h : RdW w w1 g4 gh box cs u) (hb : Below gh u u') (hh : Blk 28 u' gh cs') : RdW w w1 g4 gh box cs' u' := by
  have h0 := h.h0
  have h1 := h.h1
  have h2 := h.h2
  exact ⟨h.hb.trans (hb.mono (by omega)), h.hk.trans (hb.mono (by omega)), h.hz.below hb (by omega), h.h4.below hb (by omega), hh, h0, h1, h2⟩
theorem decE_01 (b : List UInt8) (h : decE b ≠ 0) : decE b = 1 := by
  unfold decE at h ⊢
  split at h
  · exact absurd rfl h
  · rename_i hn; rw [if_neg hn]
end Go.Proofs.Ytgjgokcpampljaa
/- (Hdr10) block.Read: an item that has not eleven kids. -/
namespace Go.Proofs.Ytgjgokcpampljaa
open Go.RowKit
end Go.Proofs.Ytgjgokcpampljaa
/- (Hdr11) block.Read: eleven kids. -/
namespace Go.Proofs.Ytgjgokcpampljaa
open Go.RowKit
theorem nOff_lt (i : Nat) (hi : i < 4) : nOff i < 204 := by
  rcases (by omega : i = 0 ∨ i = 1 ∨ i = 2 ∨ i = 3) with rfl | rfl | rfl | rfl <;> decide
theorem tOff_le (i : Nat) (hi : i < 7) : (tOff i).1 + (tOff i).2.1 ≤ 204 := by
  rcases (by omega : i = 0 ∨ i = 1 ∨ i = 2 ∨ i = 3 ∨ i = 4 ∨ i = 5 ∨ i = 6) with rfl | rfl | rfl | rfl | rfl | rfl | rfl <;> decide
theorem tOff_kid (i : Nat) (hi : i < 7) : (tOff i).2.2 = if i = 0 then 0 else i + 4 := by
  rcases (by omega : i = 0 ∨ i = 1 ∨ i = 2 ∨ i = 3 ∨ i = 4 ∨ i = 5 ∨ i = 6) with rfl | rfl | rfl | rfl | rfl | rfl | rfl <;> rfl
/-- the text of a kid -/
theorem kid_text {w1 : World} {ka : Option Addr} {n kc : Nat} {ks : List Itm} (hrow : RowOf icells 3 w1 (.slice ka n kc) ks) (hkids : ∀ k ∈ ks, IsItm w1 k) (i : Nat) (hi : i < ks.length) : ∃ b off ta tc, ka = some ⟨b, off, none⟩ ∧
    ∀ u, Below w1.heap.size w1 u → u.cell? ⟨b, off + i * 3 + 1, none⟩ = some (.slice ta ((ks.map itt)[i]?.getD []).length tc) ∧ Bytes u (.slice ta ((ks.map itt)[i]?.getD []).length tc) ((ks.map itt)[i]?.getD []) := by
  obtain ⟨b, off, rfl, hc⟩ := RowOf.cells icells_len hrow i hi
  have hI := hkids _ (List.getElem_mem hi)
  have e : (ks.map itt)[i]?.getD [] = itt ks[i] := by rw [List.getElem?_map, List.getElem?_eq_getElem hi]; rfl
  rw [e]
  obtain ⟨kid, hkid⟩ : ∃ x, x = ks[i] := ⟨_, rfl⟩
  rw [← hkid] at hI
  obtain ⟨l, tv, t, kv, kks⟩ := kid
  obtain ⟨ta, tc, rfl, _, _⟩ := hI.inv.1.form
  rw [← hkid]
  refine ⟨b, off, ta, tc, rfl, fun u hu => ⟨?_, RowOf.below (f := b8) (size := 1) hI.inv.1 hu⟩⟩
  obtain ⟨b', off', e', hc'⟩ := RowOf.cells icells_len (RowOf.below hrow hu) i hi
  simp only [Option.some.injEq, Addr.mk.injEq, and_true] at e'
  obtain ⟨rfl, rfl⟩ := e'
  rw [Nat.add_assoc]
  exact hc' 1 _ (by rw [← hkid]; rfl)
end Go.Proofs.Ytgjgokcpampljaa
