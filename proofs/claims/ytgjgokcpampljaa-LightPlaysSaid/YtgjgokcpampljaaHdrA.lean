/- A header by its fields, what it is written as, what reading answers: plain Lean. | How a header that comes in is read; '==' of headers. | A list of texts in the making, some of which lie in blocks that were there before it. | block.Write. -/
import Derived.Test.YtgjgokcpampljaaLits
import Derived.Test.YtgjgokcpampljaaEncB
import Derived.Test.YtgjgokcpampljaaCanon
import Derived.Test.YtgjgokcpampljaaOpenA
import Derived.MapViews
import Derived.DeepKeys2
import Derived.Test.YtgjgokcpampljaaKids
/- (Hdr1) A header by its fields, what it is written as, what reading answers: plain Lean. -/
set_option linter.unusedSimpArgs false
set_option linter.unusedVariables false
namespace Go.Proofs.Ytgjgokcpampljaa
open Go.RowKit
/-- a header -/
structure Hd where
  par : List UInt8
  num : Nat
  tim : Nat
  kee : List UInt8
  lim : Nat
  use : Nat
  blo : List UInt8
  sta : List UInt8
  txs : List UInt8
  rcs : List UInt8
  nex : List UInt8
structure Hd.Ok (h : Hd) : Prop where
  par : h.par.length = 32
  num : h.num < 18446744073709551616
  tim : h.tim < 18446744073709551616
  kee : h.kee.length = 8
  lim : h.lim < 18446744073709551616
  use : h.use < 18446744073709551616
  blo : h.blo.length = 32
  sta : h.sta.length = 32
  txs : h.txs.length = 32
  rcs : h.rcs.length = 32
  nex : h.nex.length = 32
/-- a header's cells -/
def hdcs (h : Hd) : List Value := by8 h.par ++ ([u64v h.num] ++ ([u64v h.tim] ++ (by8 h.kee ++ ([u64v h.lim] ++ ([u64v h.use] ++ (by8 h.blo ++ (by8 h.sta ++ (by8 h.txs ++ (by8 h.rcs ++ by8 h.nex)))))))))
theorem hdcs_len {h : Hd} (k : h.Ok) : (hdcs h).length = 204 := by
  unfold hdcs
  simp only [List.length_append, by8_len, k.par, k.kee, k.blo, k.sta, k.txs, k.rcs, k.nex, List.length_cons, List.length_nil]
theorem hdcs_one (h : Hd) : ∀ u ∈ hdcs h, u.oneCell' = true := by
  have e8 : ∀ l, ∀ u ∈ by8 l, u.oneCell' = true := by
    intro l u hu
    obtain ⟨x, _, rfl⟩ := List.mem_map.1 hu
    rfl
  intro u hu
  unfold hdcs at hu
  simp only [List.mem_append, List.mem_singleton] at hu
  rcases hu with h | h | h | h | h | h | h | h | h | h | h
  · exact e8 _ _ h
  · rw [h]; rfl
  · rw [h]; rfl
  · exact e8 _ _ h
  · rw [h]; rfl
  · rw [h]; rfl
  · exact e8 _ _ h
  · exact e8 _ _ h
  · exact e8 _ _ h
  · exact e8 _ _ h
  · exact e8 _ _ h
/-- the parts -/
theorem mid_drop {α : Type} (a b c : List α) (n m : Nat) (hn : a.length = n) (hm : b.length = m) : ((a ++ (b ++ c)).drop n).take m = b := by
  rw [List.drop_left' hn, List.take_left' hm]
theorem end_drop {α : Type} (a b : List α) (n m : Nat) (hn : a.length = n) (hm : b.length = m) : ((a ++ b).drop n).take m = b := by
  rw [List.drop_left' hn, List.take_of_length_le (by omega)]
section
variable {h : Hd} (k : h.Ok)
include k
theorem hdcs_par : ((hdcs h).drop 0).take 32 = by8 h.par := mid_drop [] _ _ 0 32 rfl (by rw [by8_len, k.par])
theorem hdcs_kee : ((hdcs h).drop 34).take 8 = by8 h.kee := by
  have : hdcs h = (by8 h.par ++ ([u64v h.num] ++ [u64v h.tim])) ++ (by8 h.kee ++ ([u64v h.lim] ++ ([u64v h.use] ++ (by8 h.blo ++ (by8 h.sta ++ (by8 h.txs ++ (by8 h.rcs ++ by8 h.nex))))))) := by unfold hdcs; simp only [List.append_assoc]
  rw [this]
  exact mid_drop _ _ _ 34 8 (by simp only [List.length_append, by8_len, k.par, List.length_cons, List.length_nil]) (by rw [by8_len, k.kee])
theorem hdcs_blo : ((hdcs h).drop 44).take 32 = by8 h.blo := by
  have : hdcs h = (by8 h.par ++ ([u64v h.num] ++ ([u64v h.tim] ++ (by8 h.kee ++ ([u64v h.lim] ++ [u64v h.use]))))) ++ (by8 h.blo ++ (by8 h.sta ++ (by8 h.txs ++ (by8 h.rcs ++ by8 h.nex)))) := by unfold hdcs; simp only [List.append_assoc]
  rw [this]
  exact mid_drop _ _ _ 44 32 (by simp only [List.length_append, by8_len, k.par, k.kee, List.length_cons, List.length_nil]) (by rw [by8_len, k.blo])
theorem hdcs_sta : ((hdcs h).drop 76).take 32 = by8 h.sta := by
  have : hdcs h = (by8 h.par ++ ([u64v h.num] ++ ([u64v h.tim] ++ (by8 h.kee ++ ([u64v h.lim] ++ ([u64v h.use] ++ by8 h.blo)))))) ++ (by8 h.sta ++ (by8 h.txs ++ (by8 h.rcs ++ by8 h.nex))) := by unfold hdcs; simp only [List.append_assoc]
  rw [this]
  exact mid_drop _ _ _ 76 32 (by simp only [List.length_append, by8_len, k.par, k.kee, k.blo, List.length_cons, List.length_nil]) (by rw [by8_len, k.sta])
theorem hdcs_txs : ((hdcs h).drop 108).take 32 = by8 h.txs := by
  have : hdcs h = (by8 h.par ++ ([u64v h.num] ++ ([u64v h.tim] ++ (by8 h.kee ++ ([u64v h.lim] ++ ([u64v h.use] ++ (by8 h.blo ++ by8 h.sta))))))) ++ (by8 h.txs ++ (by8 h.rcs ++ by8 h.nex)) := by unfold hdcs; simp only [List.append_assoc]
  rw [this]
  exact mid_drop _ _ _ 108 32 (by simp only [List.length_append, by8_len, k.par, k.kee, k.blo, k.sta, List.length_cons, List.length_nil]) (by rw [by8_len, k.txs])
theorem hdcs_rcs : ((hdcs h).drop 140).take 32 = by8 h.rcs := by
  have : hdcs h = (by8 h.par ++ ([u64v h.num] ++ ([u64v h.tim] ++ (by8 h.kee ++ ([u64v h.lim] ++ ([u64v h.use] ++ (by8 h.blo ++ (by8 h.sta ++ by8 h.txs)))))))) ++ (by8 h.rcs ++ by8 h.nex) := by unfold hdcs; simp only [List.append_assoc]
  rw [this]
  exact mid_drop _ _ _ 140 32 (by simp only [List.length_append, by8_len, k.par, k.kee, k.blo, k.sta, k.txs, List.length_cons, List.length_nil]) (by rw [by8_len, k.rcs])
theorem hdcs_nex : ((hdcs h).drop 172).take 32 = by8 h.nex := by
  have : hdcs h = (by8 h.par ++ ([u64v h.num] ++ ([u64v h.tim] ++ (by8 h.kee ++ ([u64v h.lim] ++ ([u64v h.use] ++ (by8 h.blo ++ (by8 h.sta ++ (by8 h.txs ++ by8 h.rcs))))))))) ++ by8 h.nex := by unfold hdcs; simp only [List.append_assoc]
  rw [this]
  exact end_drop _ _ 172 32 (by simp only [List.length_append, by8_len, k.par, k.kee, k.blo, k.sta, k.txs, k.rcs, List.length_cons, List.length_nil]) (by rw [by8_len, k.nex])
theorem hdcs_num : (hdcs h)[32]? = some (u64v h.num) := by
  unfold hdcs
  rw [List.getElem?_append_right (by rw [by8_len, k.par]; omega), by8_len, k.par]; rfl
theorem hdcs_tim : (hdcs h)[33]? = some (u64v h.tim) := by
  unfold hdcs
  rw [List.getElem?_append_right (by rw [by8_len, k.par]; omega), by8_len, k.par]; rfl
theorem hdcs_lim : (hdcs h)[42]? = some (u64v h.lim) := by
  have : hdcs h = (by8 h.par ++ ([u64v h.num] ++ ([u64v h.tim] ++ by8 h.kee))) ++ ([u64v h.lim] ++ ([u64v h.use] ++ (by8 h.blo ++ (by8 h.sta ++ (by8 h.txs ++ (by8 h.rcs ++ by8 h.nex)))))) := by unfold hdcs; simp only [List.append_assoc]
  have hl : (by8 h.par ++ ([u64v h.num] ++ ([u64v h.tim] ++ by8 h.kee))).length = 42 := by simp only [List.length_append, by8_len, k.par, k.kee, List.length_cons, List.length_nil]
  rw [this, List.getElem?_append_right (by rw [hl]; omega), hl]; rfl
theorem hdcs_use : (hdcs h)[43]? = some (u64v h.use) := by
  have : hdcs h = (by8 h.par ++ ([u64v h.num] ++ ([u64v h.tim] ++ by8 h.kee))) ++ ([u64v h.lim] ++ ([u64v h.use] ++ (by8 h.blo ++ (by8 h.sta ++ (by8 h.txs ++ (by8 h.rcs ++ by8 h.nex)))))) := by unfold hdcs; simp only [List.append_assoc]
  have hl : (by8 h.par ++ ([u64v h.num] ++ ([u64v h.tim] ++ by8 h.kee))).length = 42 := by simp only [List.length_append, by8_len, k.par, k.kee, List.length_cons, List.length_nil]
  rw [this, List.getElem?_append_right (by rw [hl]; omega), hl]; rfl
end
/-- its texts; what it is written as -/
def hTs (h : Hd) : List (List UInt8) := [h.par, numB h.num, numB h.tim, numB h.lim, numB h.use, h.kee, h.blo, h.sta, h.txs, h.rcs, h.nex]
theorem lsB_enc (ts : List (List UInt8)) : lsB ts = encP (.lst (ts.map .txt)) := by
  have : ∀ ts : List (List UInt8), ts.flatMap textB = encPL (ts.map .txt) := by
    intro ts
    induction ts with
    | nil => rfl
    | cons t ts ih => rw [List.flatMap_cons, List.map_cons, encPL, ih]; rfl
  unfold lsB
  rw [encP, this]
def wH (h : Hd) : List UInt8 := lsB (hTs h)
theorem textB_len (t : List UInt8) : (textB t).length ≤ t.length + 9 ∨ 18446744073709551616 ≤ t.length := by
  by_cases h64 : t.length < 18446744073709551616
  · left
    unfold textB
    split
    · omega
    · unfold headB
      rw [List.length_append]
      split
      · rw [List.length_cons, List.length_nil]; omega
      · have := numB_8 t.length h64
        rw [List.length_cons]; omega
  · right; omega
theorem textB_short {t : List UInt8} (h : t.length ≤ 32) : (textB t).length ≤ 41 := by
  rcases textB_len t with h1 | h1 <;> omega
theorem hTs_short {h : Hd} (k : h.Ok) : ∀ t ∈ hTs h, t.length ≤ 32 := by
  have n8 := fun x hx => numB_8 x hx
  intro t ht
  simp only [hTs, List.mem_cons, List.not_mem_nil, or_false] at ht
  rcases ht with rfl | rfl | rfl | rfl | rfl | rfl | rfl | rfl | rfl | rfl | rfl
  · rw [k.par]; omega
  · have := n8 _ k.num; omega
  · have := n8 _ k.tim; omega
  · have := n8 _ k.lim; omega
  · have := n8 _ k.use; omega
  · rw [k.kee]; omega
  · rw [k.blo]; omega
  · rw [k.sta]; omega
  · rw [k.txs]; omega
  · rw [k.rcs]; omega
  · rw [k.nex]; omega
theorem flat_short : ∀ (ts : List (List UInt8)), (∀ t ∈ ts, t.length ≤ 32) → (ts.flatMap textB).length ≤ 41 * ts.length
  | [], _ => by simp
  | t :: ts, h => by
    rw [List.flatMap_cons, List.length_append, List.length_cons]
    have h1 := textB_short (h t List.mem_cons_self)
    have h2 := flat_short ts (fun x hx => h x (List.mem_cons_of_mem _ hx))
    omega
theorem wH_len {h : Hd} (k : h.Ok) : (wH h).length ≤ 1000 := by
  have h1 := flat_short (hTs h) (hTs_short k)
  have h2 : (hTs h).length = 11 := rfl
  unfold wH lsB
  rw [List.length_append]
  have h3 : (headB 192 ((hTs h).flatMap textB).length).length ≤ 9 := by
    unfold headB
    split
    · simp
    · have := numB_8 ((hTs h).flatMap textB).length (by omega)
      rw [List.length_cons]; omega
  omega
theorem txt_inj : ∀ {a b : List (List UInt8)}, a.map Pit.txt = b.map Pit.txt → a = b
  | [], [], _ => rfl
  | [], _ :: _, h => by simp at h
  | _ :: _, [], h => by simp at h
  | x :: a, y :: b, h => by
    simp only [List.map_cons, List.cons.injEq, Pit.txt.injEq] at h
    rw [h.1, txt_inj h.2]
theorem numB_inj {x y : Nat} (hx : x < 18446744073709551616) (hy : y < 18446744073709551616) (h : numB x = numB y) : x = y := by
  rw [← numB_num x (by unfold W256; omega), ← numB_num y (by unfold W256; omega), h]
theorem wH_inj {h g : Hd} (k : h.Ok) (j : g.Ok) (e : wH h = wH g) : h = g := by
  have hl := wH_len k
  unfold wH at e hl
  rw [lsB_enc] at hl
  rw [lsB_enc, lsB_enc] at e
  have := encP_inj (by omega) e
  injection this with e2
  have e3 := txt_inj e2
  unfold hTs at e3
  simp only [List.cons.injEq, and_true] at e3
  obtain ⟨a1, a2, a3, a4, a5, a6, a7, a8, a9, a10, a11⟩ := e3
  cases h; cases g
  simp only [Hd.mk.injEq]
  exact ⟨a1, numB_inj k.num j.num a2, numB_inj k.tim j.tim a3, a6, numB_inj k.lim j.lim a4, numB_inj k.use j.use a5, a7, a8, a9, a10, a11⟩
/-- the zero header -/
def zH : Hd := ⟨zeroB 32, 0, 0, zeroB 8, 0, 0, zeroB 32, zeroB 32, zeroB 32, zeroB 32, zeroB 32⟩
theorem zH_ok : zH.Ok := ⟨rfl, by decide, by decide, rfl, by decide, by decide, rfl, rfl, rfl, rfl, rfl⟩
/-- what reading a header's bytes answers -/
def RdHd (b : List UInt8) (h : Hd) (e : Int) : Prop := (e = 0 ∧ wH h = b) ∨ (e = 1 ∧ h = zH ∧ ∀ g : Hd, g.Ok → wH g ≠ b)
theorem RdHd.one {b : List UInt8} {h g : Hd} {e f : Int} (k : h.Ok) (j : g.Ok) (x : RdHd b h e) (y : RdHd b g f) : h = g ∧ e = f := by
  rcases x with ⟨rfl, x⟩ | ⟨rfl, rfl, x⟩ <;> rcases y with ⟨rfl, y⟩ | ⟨rfl, rfl, y⟩
  · exact ⟨wH_inj k j (x.trans y.symm), rfl⟩
  · exact absurd x (y h k)
  · exact absurd y (x g j)
  · exact ⟨rfl, rfl⟩
/-- 'copy' into noughts -/
def cpy (n : Nat) (t : List UInt8) : List UInt8 := t.take n ++ List.replicate (n - t.length) 0
theorem cpy_len (n : Nat) (t : List UInt8) : (cpy n t).length = n := by unfold cpy; simp; omega
theorem cpy_full {n : Nat} {t : List UInt8} (h : t.length = n) : cpy n t = t := by unfold cpy; rw [List.take_of_length_le (by omega), h, Nat.sub_self]; simp
def rdH (nf : List UInt8 → Nat) (ts : List (List UInt8)) : Hd :=
  let g := fun i => ts[i]?.getD []
  ⟨cpy 32 (g 0), nf (g 1), nf (g 2), cpy 8 (g 5), nf (g 3), nf (g 4), cpy 32 (g 6), cpy 32 (g 7), cpy 32 (g 8), cpy 32 (g 9), cpy 32 (g 10)⟩
theorem rdH_ok {nf : List UInt8 → Nat} (hf : ∀ t, nf t < 18446744073709551616) (ts : List (List UInt8)) : (rdH nf ts).Ok :=
  ⟨cpy_len _ _, hf _, hf _, cpy_len _ _, hf _, hf _, cpy_len _ _, cpy_len _ _, cpy_len _ _, cpy_len _ _, cpy_len _ _⟩
theorem rdH_self {nf : List UInt8 → Nat} (hf : ∀ x < 18446744073709551616, nf (numB x) = x) {h : Hd} (k : h.Ok) : rdH nf (hTs h) = h := by
  cases h
  simp only [rdH, hTs, List.getElem?_cons_zero, List.getElem?_cons_succ, Option.getD_some, Hd.mk.injEq]
  exact ⟨cpy_full k.par, hf _ k.num, hf _ k.tim, cpy_full k.kee, hf _ k.lim, hf _ k.use, cpy_full k.blo, cpy_full k.sta, cpy_full k.txs, cpy_full k.rcs, cpy_full k.nex⟩
def nfP (t : List UInt8) : Nat := lim (numV t) 0
def nfR (t : List UInt8) : Nat := lim (numL (last32 t)) 0
theorem lim_small {x : Nat} (h : x < 18446744073709551616) : lim x 0 = x := by unfold lim; simp; exact h
theorem nfP_num : ∀ x < 18446744073709551616, nfP (numB x) = x := by
  intro x hx
  unfold nfP
  have h8 := numB_8 x hx
  have hok : okNum (numB x) = true := by
    unfold okNum
    have := bare_head (wb x)
    simp only [Bool.and_eq_true, decide_eq_true_eq, Bool.not_eq_true', beq_eq_false_iff_ne]
    exact ⟨by omega, this⟩
  unfold numV
  rw [if_pos hok, numB_num x (by unfold W256; omega), lim_small hx]
theorem nfR_num : ∀ x < 18446744073709551616, nfR (numB x) = x := by
  intro x hx
  unfold nfR
  have h8 := numB_8 x hx
  rw [last_small _ (by omega), numB_num x (by unfold W256; omega), lim_small hx]
end Go.Proofs.Ytgjgokcpampljaa
/- (Hdr2) How a header that comes in is read; '==' of headers. -/
namespace Go.Proofs.Ytgjgokcpampljaa
open Go.ChangeShapes Go.WideShapes Go.ChangeAt Go.RowKit
theorem keyTypeHd : Try.prog.keyTypeAt 4 28 = true := by kernel_rfl
theorem cellsHd : Try.prog.cellsOf 28 = 204 := by kernel_rfl
theorem aggHd : Agg Try.prog 28 204 := ⟨_, Try.underlying28, rfl, by kernel_rfl⟩
def hls (h : Hd) : List Lit := [lit8 h.par, lit64 h.num, lit64 h.tim, lit8 h.kee, lit64 h.lim, lit64 h.use, lit8 h.blo, lit8 h.sta, lit8 h.txs, lit8 h.rcs, lit8 h.nex].flatten
theorem keyHd {h : Hd} (k : h.Ok) : Try.prog.keyLits 4 28 (hdcs h) = some (hls h) := by
  have c32 : Try.prog.cellsOf 23 = 32 := by kernel_rfl
  have c8 : Try.prog.cellsOf 26 = 8 := by kernel_rfl
  have c1 : Try.prog.cellsOf 24 = 1 := by kernel_rfl
  have a32 := fun l hl => keyA (t := 23) (n := 32) Try.underlying23 c32 1 l hl
  have a8 := fun l hl => keyA (t := 26) (n := 8) Try.underlying26 c8 1 l hl
  have e0 := a32 h.par k.par
  have e1 := keyL64 2 k.num
  have e2 := keyL64 2 k.tim
  have e3 := a8 h.kee k.kee
  have e4 := keyL64 2 k.lim
  have e5 := keyL64 2 k.use
  have e6 := a32 h.blo k.blo
  have e7 := a32 h.sta k.sta
  have e8 := a32 h.txs k.txs
  have e9 := a32 h.rcs k.rcs
  have e10 := a32 h.nex k.nex
  rw [← hdcs_par k] at e0
  rw [← one_at (hdcs_num k)] at e1
  rw [← one_at (hdcs_tim k)] at e2
  rw [← hdcs_kee k] at e3
  rw [← one_at (hdcs_lim k)] at e4
  rw [← one_at (hdcs_use k)] at e5
  rw [← hdcs_blo k] at e6
  rw [← hdcs_sta k] at e7
  rw [← hdcs_txs k] at e8
  rw [← hdcs_rcs k] at e9
  rw [← hdcs_nex k] at e10
  unfold Program.keyLits
  simp only [show Try.prog.underlying 28 = some (.struct _) from Try.underlying28]
  rw [if_pos ⟨by rw [hdcs_len k, cellsHd], by kernel_rfl⟩]
  simp only [List.mapM_cons, List.mapM_nil, c32, c8, c1, e0, e1, e2, e3, e4, e5, e6, e7, e8, e9, e10]
  rfl
theorem formedHd {h : Hd} (k : h.Ok) : (Value.agg (hdcs h).toArray).formed Try.prog 28 = true := by
  unfold Value.formed
  simp only [show Try.prog.underlying 28 = some (.struct _) from Try.underlying28, cellsHd, List.size_toArray, hdcs_len k, beq_self_eq_true]
theorem run_eqHd {h : Hd} (k : h.Ok) (w : World) : (binOp .eql 28 (.agg (hdcs h).toArray) (.agg (hdcs h).toArray)).run Try.prog w = .ok (.bool true) w := by
  obtain ⟨r, hr, hi⟩ := run_equalIn_deep 9996 4 28 keyTypeHd w 4 4 (.agg (hdcs h).toArray) (.agg (hdcs h).toArray) (hls h) (hls h) (formedHd k) (formedHd k) (keyHd k) (keyHd k)
  have h2 : r = true := hi.2 rfl
  rw [h2] at hr
  have h3 : (Op.equalIn 10000 28 (.agg (hdcs h).toArray) (.agg (hdcs h).toArray)).run Try.prog w = .ok true w := hr
  rw [run_eql_struct, h3]; rfl
theorem guard_eqHd (x y : Hd) (o1 o2 : Operand) (w1 : World) : (eqGuard .eql 28 o1 o2 (.agg (hdcs x).toArray) (.agg (hdcs y).toArray)).run Try.prog w1 = .ok () w1 :=
  run_eqGuard_agg (P := Try.prog) (w := w1) .eql 28 o1 o2 _ _ (by kernel_rfl)
section
variable {H : Type} {enc : TypeId × Value → H} {W : World}
set_option maxRecDepth 100000 in
theorem open_header_at {fuel : Nat} {cs : List Value} {x : DataW H × List MemPlace} (h : DataW.trod enc Try.prog W 0 (fun _ => true) true fuel 28 cs = some x) : ∃ h : Hd, h.Ok ∧ cs = hdcs h := by
  obtain ⟨xs, n, hn, hx, hcl, hlen, hf⟩ := DataW.trod_struct Try.underlying28 h
  have c32 : Try.prog.cellsOf 23 = 32 := by kernel_rfl
  have c8 : Try.prog.cellsOf 26 = 8 := by kernel_rfl
  have c1 : Try.prog.cellsOf 24 = 1 := by kernel_rfl
  have hl : xs.length = 11 := hlen
  rw [cellsHd] at hcl
  match xs, hl with
  | [y0, y1, y2, y3, y4, y5, y6, y7, y8, y9, y10], _ =>
    have h0 := hf 0 _ rfl
    have h1 := hf 1 _ rfl
    have h2 := hf 2 _ rfl
    have h3 := hf 3 _ rfl
    have h4 := hf 4 _ rfl
    have h5 := hf 5 _ rfl
    have h6 := hf 6 _ rfl
    have h7 := hf 7 _ rfl
    have h8 := hf 8 _ rfl
    have h9 := hf 9 _ rfl
    have h10 := hf 10 _ rfl
    change DataW.trod enc Try.prog W 0 (fun _ => true) true n 23 ((cs.drop 0).take (Try.prog.cellsOf 23)) = some y0 at h0
    change DataW.trod enc Try.prog W 0 (fun _ => true) true n 24 ((cs.drop 32).take (Try.prog.cellsOf 24)) = some y1 at h1
    change DataW.trod enc Try.prog W 0 (fun _ => true) true n 24 ((cs.drop 33).take (Try.prog.cellsOf 24)) = some y2 at h2
    change DataW.trod enc Try.prog W 0 (fun _ => true) true n 26 ((cs.drop 34).take (Try.prog.cellsOf 26)) = some y3 at h3
    change DataW.trod enc Try.prog W 0 (fun _ => true) true n 24 ((cs.drop 42).take (Try.prog.cellsOf 24)) = some y4 at h4
    change DataW.trod enc Try.prog W 0 (fun _ => true) true n 24 ((cs.drop 43).take (Try.prog.cellsOf 24)) = some y5 at h5
    change DataW.trod enc Try.prog W 0 (fun _ => true) true n 23 ((cs.drop 44).take (Try.prog.cellsOf 23)) = some y6 at h6
    change DataW.trod enc Try.prog W 0 (fun _ => true) true n 23 ((cs.drop 76).take (Try.prog.cellsOf 23)) = some y7 at h7
    change DataW.trod enc Try.prog W 0 (fun _ => true) true n 23 ((cs.drop 108).take (Try.prog.cellsOf 23)) = some y8 at h8
    change DataW.trod enc Try.prog W 0 (fun _ => true) true n 23 ((cs.drop 140).take (Try.prog.cellsOf 23)) = some y9 at h9
    change DataW.trod enc Try.prog W 0 (fun _ => true) true n 23 ((cs.drop 172).take (Try.prog.cellsOf 23)) = some y10 at h10
    obtain ⟨f0, l0, e0⟩ := open_f32 Try.underlying23 c32 h0
    obtain ⟨f1, l1, e1⟩ := open_f64 h1
    obtain ⟨f2, l2, e2⟩ := open_f64 h2
    obtain ⟨f3, l3, e3⟩ := open_f32 Try.underlying26 c8 h3
    obtain ⟨f4, l4, e4⟩ := open_f64 h4
    obtain ⟨f5, l5, e5⟩ := open_f64 h5
    obtain ⟨f6, l6, e6⟩ := open_f32 Try.underlying23 c32 h6
    obtain ⟨f7, l7, e7⟩ := open_f32 Try.underlying23 c32 h7
    obtain ⟨f8, l8, e8⟩ := open_f32 Try.underlying23 c32 h8
    obtain ⟨f9, l9, e9⟩ := open_f32 Try.underlying23 c32 h9
    obtain ⟨f10, l10, e10⟩ := open_f32 Try.underlying23 c32 h10
    rw [c32] at e0 e6 e7 e8 e9 e10
    rw [c1] at e1 e2 e4 e5
    rw [c8] at e3
    refine ⟨⟨f0, f1, f2, f3, f4, f5, f6, f7, f8, f9, f10⟩, ⟨l0, l1, l2, l3, l4, l5, l6, l7, l8, l9, l10⟩, ?_⟩
    have q0 : cs.drop 0 = cs := rfl
    have q204 : cs.drop 204 = [] := List.drop_eq_nil_of_le (by omega)
    rw [← q0, piece cs 0 32, e0, piece cs (0 + 32) 1, e1, piece cs (0 + 32 + 1) 1, e2, piece cs (0 + 32 + 1 + 1) 8, e3, piece cs (0 + 32 + 1 + 1 + 8) 1, e4, piece cs (0 + 32 + 1 + 1 + 8 + 1) 1, e5, piece cs (0 + 32 + 1 + 1 + 8 + 1 + 1) 32, e6,
      piece cs (0 + 32 + 1 + 1 + 8 + 1 + 1 + 32) 32, e7, piece cs (0 + 32 + 1 + 1 + 8 + 1 + 1 + 32 + 32) 32, e8, piece cs (0 + 32 + 1 + 1 + 8 + 1 + 1 + 32 + 32 + 32) 32, e9, piece cs (0 + 32 + 1 + 1 + 8 + 1 + 1 + 32 + 32 + 32 + 32) 32, e10, q204, List.append_nil]
    rfl
set_option maxRecDepth 100000 in
theorem open_header {r : Reach} {b0 : Nat} {v : Value} {d : DataW H} {p : List MemPlace} (hv : Value.okWide Try.prog W r b0 28 v) (h : DataW.Trod enc Try.prog W 0 (fun _ => true) true 28 v d p) : ∃ h : Hd, v = .agg (hdcs h).toArray ∧ h.Ok := by
  obtain ⟨cs, rfl, _⟩ := okWide_struct Try.underlying28 hv
  obtain ⟨fuel, hf⟩ := h
  obtain ⟨h, h1, h2⟩ := open_header_at hf
  have h3 : cs.toList = hdcs h := h2
  exact ⟨h, congrArg Value.agg (by rw [← h3]), h1⟩
end
end Go.Proofs.Ytgjgokcpampljaa
/- (LkV) A list of texts in the making, some of which lie in blocks that were there before it. -/
namespace Go.Proofs.Ytgjgokcpampljaa
open Go.RowKit
structure LkV (w : World) (zs : List (TypeId × Nat × List Value)) (B g9 : Nat) (kv : Value) (ks : List Itm) (u : World) : Prop where
  hb : Below w.heap.size w u
  hz : ∀ p ∈ zs, Blk p.1 u p.2.1 p.2.2 ∧ p.2.1 < B
  hm : Blk 155 u g9 [.bool true, .slice none 0 0, kv]
  hO : OwnOf icells 3 155 u B kv ks
  hn : kv.ownBlock ≠ some g9
  hF : ∀ k ∈ ks, Fp (fun x => x ≠ g9 ∧ kv.ownBlock ≠ some x) u k
  h1 : w.heap.size ≤ B
  h2 : B ≤ g9
section
variable {w : World} {zs : List (TypeId × Nat × List Value)} {B g9 : Nat} {kv : Value} {ks : List Itm} {u : World}
theorem LkV.kept {u' : World} (h : LkV w zs B g9 kv ks u) (hb : Below u.heap.size u u') : LkV w zs B g9 kv ks u' :=
  ⟨Below.then h.hb hb, fun p hp => ⟨(h.hz p hp).1.kept hb, (h.hz p hp).2⟩, h.hm.kept hb, h.hO.kept hb, h.hn, fun k hk => (h.hF k hk).to hb.size (fun x hx hl => ⟨hb.block x hl, hx⟩), h.h1, h.h2⟩
theorem LkV.grew {u' : World} {kv' : Value} {it : Itm} (h : LkV w zs B g9 kv ks u) (hit : Fp (fun x => x ≠ g9 ∧ kv.ownBlock ≠ some x) u it) (hg : u.grownBy u' kv.ownBlock) (hO : OwnOf icells 3 155 u' B kv' (ks ++ [it]))
    (hp : ∀ k, kv'.ownBlock = some k → kv.ownBlock = some k ∨ u.heap.size ≤ k) : LkV w zs B g9 kv' (ks ++ [it]) (u'.setCell ⟨g9, 2, none⟩ kv') := by
  have q1 := h.h1
  have q2 := h.h2
  have hl9 := h.hm.lt
  have hst : u'.grownBy (u'.setCell ⟨g9, 2, none⟩ kv') (some g9) := grown_cell 2 kv'
  have hn' : kv'.ownBlock ≠ some g9 := fun e => by
    rcases hp _ e with h1 | h1
    · exact h.hn h1
    · omega
  have hall : ∀ k, Fp (fun x => x ≠ g9 ∧ kv.ownBlock ≠ some x) u k → Fp (fun x => x ≠ g9 ∧ kv'.ownBlock ≠ some x) (u'.setCell ⟨g9, 2, none⟩ kv') k := by
    intro k hk
    refine hk.to (Nat.le_trans hg.size hst.size) (fun x hx hlt => ⟨?_, hx.1, fun e => ?_⟩)
    · have hx1 := hx.1
      rw [hst.block x (Nat.lt_of_lt_of_le hlt hg.size) (by simp; omega), hg.block x hlt (fun e => hx.2 e.symm)]
    · rcases hp x e with h1 | h1
      · exact hx.2 h1
      · omega
  have hb2 := h.hb.grown hg h.hb.size (fun k hk => by have := h.hO.lt k hk; omega)
  have hne : ∀ b, b < B → kv.ownBlock ≠ some b := fun b hb e => by have := h.hO.lt b e; omega
  refine ⟨hb2.setCell (by show w.heap.size ≤ g9; omega) _, fun p hp => ⟨((h.hz p hp).1.grown hg (hne _ (h.hz p hp).2)).other _ (by have := (h.hz p hp).2; simp; omega) _, (h.hz p hp).2⟩, (h.hm.grown hg h.hn).set 2 kv', hO.grown hst (fun k hk e => by cases hk; exact hn' e), hn', fun k hk => ?_, q1, q2⟩
  rcases List.mem_append.1 hk with hk | hk
  · exact hall k (h.hF k hk)
  · rw [List.mem_singleton] at hk; subst hk; exact hall k hit
theorem LkV.is (h : LkV w zs B g9 kv ks u) : IsItm u (lst kv ks) := IsItm.lst h.hO.row (fun k hk => (h.hF k hk).is)
theorem fp_at {S : Nat → Prop} {w : World} {v : Value} {t : List UInt8} (h : Bytes w v t) (hS : ∀ b, v.ownBlock = some b → S b) : Fp S w (txt v t) := by
  intro u hu
  exact .mk false v t _ [] (Bytes.onto h (fun b h1 h2 => hu b (hS b h1) h2)) (RowOf.nil icells 3 u) (by simp)
/-- a text made since -/
theorem LkV.text {u' : World} {v : Value} {t : List UInt8} (h : LkV w zs B g9 kv ks u) {B' : Nat} (hB : u.heap.size ≤ B') (hit : TxB B' t v u') : Fp (fun x => x ≠ g9 ∧ kv.ownBlock ≠ some x) u' (txt v t) := by
  have hlt := h.hm.lt
  exact fp_text hit (fun b hb => ⟨by omega, fun e => by have := own_ltK h.hO e; omega⟩)
/-- a text that lies below -/
theorem LkV.low {u' : World} {v : Value} {t : List UInt8} (h : LkV w zs B g9 kv ks u) (hit : Bytes u' v t) (hlow : ∀ b, v.ownBlock = some b → b < B) : Fp (fun x => x ≠ g9 ∧ kv.ownBlock ≠ some x) u' (txt v t) := by
  have h2 := h.h2
  exact fp_at hit (fun b hb => ⟨by have := hlow b hb; omega, fun e => by have := h.hO.lt b e; have := hlow b hb; omega⟩)
end
/-- a part of a block, as bytes -/
theorem Blk.bytesAt {e : TypeId} {w : World} {g : Nat} {cs : List Value} (hb : Blk e w g cs) (off n : Nat) (t : List UInt8) (ht : (cs.drop off).take n = by8 t) (hl : t.length = n) (hn : n ≤ maxLen) : Bytes w (.slice (some ⟨g, off, none⟩) n n) t := by
  subst hl
  refine ⟨flat_len (f := b8) (size := 1) (fun _ => rfl) t, _, _, rfl, Nat.le_refl _, hn, .inr ⟨g, off, none, rfl, .inl rfl, fun j u hu => ?_⟩⟩
  rw [flat_b8] at hu
  have hj : j < t.length := by have := (List.getElem?_eq_some_iff.1 hu).1; simpa using this
  rw [hb.cell]
  have : (by8 t)[j]? = some u := hu
  rw [← ht, List.getElem?_take_of_lt hj, List.getElem?_drop] at this
  exact this
theorem run_part_at {P : Program} {e : TypeId} (ha : ∀ w, (isAgg e).run P w = .ok false w) {cs : Array Value} {k : Nat} {v : Value} (h : cs[k]? = some v) (w : World) : (part e cs k).run P w = .ok v w := by
  unfold part
  simp [ha, h]
/-- 'a[i]' of an array of plain values -/
theorem run_index_at {P : Program} {t e : TypeId} {n : Nat} (ht : P.underlying t = some (.array n e)) (hs : (P.info? e).map (·.size) = some 1) (ha : ∀ w, (isAgg e).run P w = .ok false w) (cs : Array Value) (k : Nat) (hk : k < n) {v : Value} (h : cs[k]? = some v) (w : World) (ik : IntKind) :
    (Instr.index t (.agg cs) (.int ik (k : Int))).run P w = .ok v w := run_index_agg ht hs cs k hk w ik (run_part_at ha h w)
end Go.Proofs.Ytgjgokcpampljaa
/- (Hdr3) block.Write. -/
namespace Go.Proofs.Ytgjgokcpampljaa
open Go.RowKit
def hNs (h : Hd) : List Nat := [h.num, h.tim, h.lim, h.use]
/-- the parts behind the numbers: where, how long, what -/
def hSix (h : Hd) : List (Nat × Nat × List UInt8) := [(34, 8, h.kee), (44, 32, h.blo), (76, 32, h.sta), (108, 32, h.txs), (140, 32, h.rcs), (172, 32, h.nex)]
def sv6 (g : Nat) (p : Nat × Nat × List UInt8) : Value := .slice (some ⟨g, p.1, none⟩) p.2.1 p.2.1
theorem hSix_bytes {h : Hd} (k : h.Ok) {e : TypeId} {w : World} {g : Nat} (hb : Blk e w g (hdcs h)) : ∀ p ∈ hSix h, Bytes w (sv6 g p) p.2.2 ∧ p.2.2.length = p.2.1 := by
  intro p hp
  simp only [hSix, List.mem_cons, List.not_mem_nil, or_false] at hp
  rcases hp with rfl | rfl | rfl | rfl | rfl | rfl
  · exact ⟨hb.bytesAt _ _ _ (hdcs_kee k) k.kee (by unfold maxLen; dsimp only; omega), k.kee⟩
  · exact ⟨hb.bytesAt _ _ _ (hdcs_blo k) k.blo (by unfold maxLen; dsimp only; omega), k.blo⟩
  · exact ⟨hb.bytesAt _ _ _ (hdcs_sta k) k.sta (by unfold maxLen; dsimp only; omega), k.sta⟩
  · exact ⟨hb.bytesAt _ _ _ (hdcs_txs k) k.txs (by unfold maxLen; dsimp only; omega), k.txs⟩
  · exact ⟨hb.bytesAt _ _ _ (hdcs_rcs k) k.rcs (by unfold maxLen; dsimp only; omega), k.rcs⟩
  · exact ⟨hb.bytesAt _ _ _ (hdcs_nex k) k.nex (by unfold maxLen; dsimp only; omega), k.nex⟩
theorem hTs_ns (h : Hd) (i : Nat) (hi : i < 4) : (hTs h).take (i + 2) = (hTs h).take (i + 1) ++ [numB ((hNs h)[i]?.getD 0)] := by
  rcases (by omega : i = 0 ∨ i = 1 ∨ i = 2 ∨ i = 3) with rfl | rfl | rfl | rfl <;> rfl
theorem hTs_six (h : Hd) (i : Nat) (hi : i < 6) : (hTs h).take (i + 6) = (hTs h).take (i + 5) ++ [((hSix h)[i]?.getD (0, 0, [])).2.2] := by
  rcases (by omega : i = 0 ∨ i = 1 ∨ i = 2 ∨ i = 3 ∨ i = 4 ∨ i = 5) with rfl | rfl | rfl | rfl | rfl | rfl <;> rfl
theorem hNs_lt {h : Hd} (k : h.Ok) (i : Nat) (hi : i < 4) : (hNs h)[i]?.getD 0 < 18446744073709551616 := by
  rcases (by omega : i = 0 ∨ i = 1 ∨ i = 2 ∨ i = 3) with rfl | rfl | rfl | rfl
  · exact k.num
  · exact k.tim
  · exact k.lim
  · exact k.use
theorem idx4 (a b c d : Nat) (i : Nat) (hi : i < 4) (w : World) : (Instr.index 53 (.agg #[u64v a, u64v b, u64v c, u64v d]) (.int .i64 (i : Int))).run Try.prog w = .ok (.int .u64 (([a, b, c, d][i]?.getD 0 : Nat) : Int)) w := by
  refine run_index_at (n := 4) (e := 24) (by kernel_rfl) (by kernel_rfl) (fun w => run_isAgg_plain Try.underlying24 rfl w) _ i hi ?_ w .i64
  rcases (by omega : i = 0 ∨ i = 1 ∨ i = 2 ∨ i = 3) with rfl | rfl | rfl | rfl <;> rfl
theorem idx6 (g : Nat) (h : Hd) (i : Nat) (hi : i < 6) (w : World) : (Instr.index 334 (.agg #[.slice (some ⟨g, 34, none⟩) 8 8, .slice (some ⟨g, 44, none⟩) 32 32, .slice (some ⟨g, 76, none⟩) 32 32, .slice (some ⟨g, 108, none⟩) 32 32, .slice (some ⟨g, 140, none⟩) 32 32, .slice (some ⟨g, 172, none⟩) 32 32]) (.int .i64 (i : Int))).run Try.prog w = .ok (sv6 g ((hSix h)[i]?.getD (0, 0, []))) w := by
  refine run_index_at (n := 6) (e := 55) (by kernel_rfl) (by kernel_rfl) (fun w => run_isAgg_plain Try.underlying55 rfl w) _ i hi ?_ w .i64
  rcases (by omega : i = 0 ∨ i = 1 ∨ i = 2 ∨ i = 3 ∨ i = 4 ∨ i = 5) with rfl | rfl | rfl | rfl | rfl | rfl <;> rfl
theorem sl32 (g off : Nat) (w : World) : (Instr.sliceAt 23 (.pointer (some ⟨g, off, none⟩)) none none none).run Try.prog w = .ok (.slice (some ⟨g, off, none⟩) 32 32) w := by
  rw [run_sliceAt_array_all w 23 ⟨g, off, none⟩ (by kernel_rfl)]
  have e1 : Try.prog.arrayLen 23 = 32 := by kernel_rfl
  have hs : (Try.prog.info? (Try.prog.elem 23)).map (·.size) = some 1 := by kernel_rfl
  cases hq : Try.prog.info? (Try.prog.elem 23) with
  | none => simp [hq] at hs
  | some q =>
    have hs1 : q.size = 1 := by simpa [hq] using hs
    simp [sizeOf, typeInfo, hq, hs1, e1, slicedAt, Addr.add]
theorem sl8 (g off : Nat) (w : World) : (Instr.sliceAt 26 (.pointer (some ⟨g, off, none⟩)) none none none).run Try.prog w = .ok (.slice (some ⟨g, off, none⟩) 8 8) w := by
  rw [run_sliceAt_array_all w 26 ⟨g, off, none⟩ (by kernel_rfl)]
  have e1 : Try.prog.arrayLen 26 = 8 := by kernel_rfl
  have hs : (Try.prog.info? (Try.prog.elem 26)).map (·.size) = some 1 := by kernel_rfl
  cases hq : Try.prog.info? (Try.prog.elem 26) with
  | none => simp [hq] at hs
  | some q =>
    have hs1 : q.size = 1 := by simpa [hq] using hs
    simp [sizeOf, typeInfo, hq, hs1, e1, slicedAt, Addr.add]
end Go.Proofs.Ytgjgokcpampljaa
