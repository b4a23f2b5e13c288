/- A header by its fields, what it is written as, what reading answers: plain Lean. -/
import Derived.Test.YtffkjjpjfehcnaaBase
import Derived.Test.YtffkjjpjfehcnaaEncB
import Derived.Test.YtffkjjpjfehcnaaCanon
set_option linter.unusedSimpArgs false
set_option linter.unusedVariables false
namespace Go.Proofs.Ytffkjjpjfehcnaa
open Go.RowKit
/-- a header -/
structure Hd where
  par : List UInt8
  num : Nat
  tim : Nat
  kee : List UInt8
  lim : Nat
  use : Nat
  blo : List UInt8
  sta : List UInt8
  txs : List UInt8
  rcs : List UInt8
  nex : List UInt8
structure Hd.Ok (h : Hd) : Prop where
  par : h.par.length = 32
  num : h.num < 18446744073709551616
  tim : h.tim < 18446744073709551616
  kee : h.kee.length = 8
  lim : h.lim < 18446744073709551616
  use : h.use < 18446744073709551616
  blo : h.blo.length = 32
  sta : h.sta.length = 32
  txs : h.txs.length = 32
  rcs : h.rcs.length = 32
  nex : h.nex.length = 32
def u64v (n : Nat) : Value := .int .u64 (n : Int)
def by8 (l : List UInt8) : List Value := l.map u8v
theorem by8_len (l : List UInt8) : (by8 l).length = l.length := by unfold by8; simp
/-- a header's cells -/
def hdcs (h : Hd) : List Value := by8 h.par ++ ([u64v h.num] ++ ([u64v h.tim] ++ (by8 h.kee ++ ([u64v h.lim] ++ ([u64v h.use] ++ (by8 h.blo ++ (by8 h.sta ++ (by8 h.txs ++ (by8 h.rcs ++ by8 h.nex)))))))))
theorem hdcs_len {h : Hd} (k : h.Ok) : (hdcs h).length = 204 := by
  unfold hdcs
  simp only [List.length_append, by8_len, k.par, k.kee, k.blo, k.sta, k.txs, k.rcs, k.nex, List.length_cons, List.length_nil]
theorem hdcs_one (h : Hd) : ∀ u ∈ hdcs h, u.oneCell' = true := by
  have e8 : ∀ l, ∀ u ∈ by8 l, u.oneCell' = true := by
    intro l u hu
    obtain ⟨x, _, rfl⟩ := List.mem_map.1 hu
    rfl
  intro u hu
  unfold hdcs at hu
  simp only [List.mem_append, List.mem_singleton] at hu
  rcases hu with h | h | h | h | h | h | h | h | h | h | h
  · exact e8 _ _ h
  · rw [h]; rfl
  · rw [h]; rfl
  · exact e8 _ _ h
  · rw [h]; rfl
  · rw [h]; rfl
  · exact e8 _ _ h
  · exact e8 _ _ h
  · exact e8 _ _ h
  · exact e8 _ _ h
  · exact e8 _ _ h
/-- the parts -/
theorem mid_drop {α : Type} (a b c : List α) (n m : Nat) (hn : a.length = n) (hm : b.length = m) : ((a ++ (b ++ c)).drop n).take m = b := by
  rw [List.drop_left' hn, List.take_left' hm]
theorem end_drop {α : Type} (a b : List α) (n m : Nat) (hn : a.length = n) (hm : b.length = m) : ((a ++ b).drop n).take m = b := by
  rw [List.drop_left' hn, List.take_of_length_le (by omega)]
section
variable {h : Hd} (k : h.Ok)
include k
theorem hdcs_par : ((hdcs h).drop 0).take 32 = by8 h.par := mid_drop [] _ _ 0 32 rfl (by rw [by8_len, k.par])
theorem hdcs_kee : ((hdcs h).drop 34).take 8 = by8 h.kee := by
  have : hdcs h = (by8 h.par ++ ([u64v h.num] ++ [u64v h.tim])) ++ (by8 h.kee ++ ([u64v h.lim] ++ ([u64v h.use] ++ (by8 h.blo ++ (by8 h.sta ++ (by8 h.txs ++ (by8 h.rcs ++ by8 h.nex))))))) := by unfold hdcs; simp only [List.append_assoc]
  rw [this]
  exact mid_drop _ _ _ 34 8 (by simp only [List.length_append, by8_len, k.par, List.length_cons, List.length_nil]) (by rw [by8_len, k.kee])
theorem hdcs_blo : ((hdcs h).drop 44).take 32 = by8 h.blo := by
  have : hdcs h = (by8 h.par ++ ([u64v h.num] ++ ([u64v h.tim] ++ (by8 h.kee ++ ([u64v h.lim] ++ [u64v h.use]))))) ++ (by8 h.blo ++ (by8 h.sta ++ (by8 h.txs ++ (by8 h.rcs ++ by8 h.nex)))) := by unfold hdcs; simp only [List.append_assoc]
  rw [this]
  exact mid_drop _ _ _ 44 32 (by simp only [List.length_append, by8_len, k.par, k.kee, List.length_cons, List.length_nil]) (by rw [by8_len, k.blo])
theorem hdcs_sta : ((hdcs h).drop 76).take 32 = by8 h.sta := by
  have : hdcs h = (by8 h.par ++ ([u64v h.num] ++ ([u64v h.tim] ++ (by8 h.kee ++ ([u64v h.lim] ++ ([u64v h.use] ++ by8 h.blo)))))) ++ (by8 h.sta ++ (by8 h.txs ++ (by8 h.rcs ++ by8 h.nex))) := by unfold hdcs; simp only [List.append_assoc]
  rw [this]
  exact mid_drop _ _ _ 76 32 (by simp only [List.length_append, by8_len, k.par, k.kee, k.blo, List.length_cons, List.length_nil]) (by rw [by8_len, k.sta])
theorem hdcs_txs : ((hdcs h).drop 108).take 32 = by8 h.txs := by
  have : hdcs h = (by8 h.par ++ ([u64v h.num] ++ ([u64v h.tim] ++ (by8 h.kee ++ ([u64v h.lim] ++ ([u64v h.use] ++ (by8 h.blo ++ by8 h.sta))))))) ++ (by8 h.txs ++ (by8 h.rcs ++ by8 h.nex)) := by unfold hdcs; simp only [List.append_assoc]
  rw [this]
  exact mid_drop _ _ _ 108 32 (by simp only [List.length_append, by8_len, k.par, k.kee, k.blo, k.sta, List.length_cons, List.length_nil]) (by rw [by8_len, k.txs])
theorem hdcs_rcs : ((hdcs h).drop 140).take 32 = by8 h.rcs := by
  have : hdcs h = (by8 h.par ++ ([u64v h.num] ++ ([u64v h.tim] ++ (by8 h.kee ++ ([u64v h.lim] ++ ([u64v h.use] ++ (by8 h.blo ++ (by8 h.sta ++ by8 h.txs)))))))) ++ (by8 h.rcs ++ by8 h.nex) := by unfold hdcs; simp only [List.append_assoc]
  rw [this]
  exact mid_drop _ _ _ 140 32 (by simp only [List.length_append, by8_len, k.par, k.kee, k.blo, k.sta, k.txs, List.length_cons, List.length_nil]) (by rw [by8_len, k.rcs])
theorem hdcs_nex : ((hdcs h).drop 172).take 32 = by8 h.nex := by
  have : hdcs h = (by8 h.par ++ ([u64v h.num] ++ ([u64v h.tim] ++ (by8 h.kee ++ ([u64v h.lim] ++ ([u64v h.use] ++ (by8 h.blo ++ (by8 h.sta ++ (by8 h.txs ++ by8 h.rcs))))))))) ++ by8 h.nex := by unfold hdcs; simp only [List.append_assoc]
  rw [this]
  exact end_drop _ _ 172 32 (by simp only [List.length_append, by8_len, k.par, k.kee, k.blo, k.sta, k.txs, k.rcs, List.length_cons, List.length_nil]) (by rw [by8_len, k.nex])
theorem hdcs_num : (hdcs h)[32]? = some (u64v h.num) := by
  unfold hdcs
  rw [List.getElem?_append_right (by rw [by8_len, k.par]; omega), by8_len, k.par]; rfl
theorem hdcs_tim : (hdcs h)[33]? = some (u64v h.tim) := by
  unfold hdcs
  rw [List.getElem?_append_right (by rw [by8_len, k.par]; omega), by8_len, k.par]; rfl
theorem hdcs_lim : (hdcs h)[42]? = some (u64v h.lim) := by
  have : hdcs h = (by8 h.par ++ ([u64v h.num] ++ ([u64v h.tim] ++ by8 h.kee))) ++ ([u64v h.lim] ++ ([u64v h.use] ++ (by8 h.blo ++ (by8 h.sta ++ (by8 h.txs ++ (by8 h.rcs ++ by8 h.nex)))))) := by unfold hdcs; simp only [List.append_assoc]
  have hl : (by8 h.par ++ ([u64v h.num] ++ ([u64v h.tim] ++ by8 h.kee))).length = 42 := by simp only [List.length_append, by8_len, k.par, k.kee, List.length_cons, List.length_nil]
  rw [this, List.getElem?_append_right (by rw [hl]; omega), hl]; rfl
theorem hdcs_use : (hdcs h)[43]? = some (u64v h.use) := by
  have : hdcs h = (by8 h.par ++ ([u64v h.num] ++ ([u64v h.tim] ++ by8 h.kee))) ++ ([u64v h.lim] ++ ([u64v h.use] ++ (by8 h.blo ++ (by8 h.sta ++ (by8 h.txs ++ (by8 h.rcs ++ by8 h.nex)))))) := by unfold hdcs; simp only [List.append_assoc]
  have hl : (by8 h.par ++ ([u64v h.num] ++ ([u64v h.tim] ++ by8 h.kee))).length = 42 := by simp only [List.length_append, by8_len, k.par, k.kee, List.length_cons, List.length_nil]
  rw [this, List.getElem?_append_right (by rw [hl]; omega), hl]; rfl
end
/-- its texts; what it is written as -/
def hTs (h : Hd) : List (List UInt8) := [h.par, numB h.num, numB h.tim, numB h.lim, numB h.use, h.kee, h.blo, h.sta, h.txs, h.rcs, h.nex]
theorem lsB_enc (ts : List (List UInt8)) : lsB ts = encP (.lst (ts.map .txt)) := by
  have : ∀ ts : List (List UInt8), ts.flatMap textB = encPL (ts.map .txt) := by
    intro ts
    induction ts with
    | nil => rfl
    | cons t ts ih => rw [List.flatMap_cons, List.map_cons, encPL, ih]; rfl
  unfold lsB
  rw [encP, this]
def wH (h : Hd) : List UInt8 := lsB (hTs h)
theorem textB_len (t : List UInt8) : (textB t).length ≤ t.length + 9 ∨ 18446744073709551616 ≤ t.length := by
  by_cases h64 : t.length < 18446744073709551616
  · left
    unfold textB
    split
    · omega
    · unfold headB
      rw [List.length_append]
      split
      · rw [List.length_cons, List.length_nil]; omega
      · have := numB_8 t.length h64
        rw [List.length_cons]; omega
  · right; omega
theorem textB_short {t : List UInt8} (h : t.length ≤ 32) : (textB t).length ≤ 41 := by
  rcases textB_len t with h1 | h1 <;> omega
theorem hTs_short {h : Hd} (k : h.Ok) : ∀ t ∈ hTs h, t.length ≤ 32 := by
  have n8 := fun x hx => numB_8 x hx
  intro t ht
  simp only [hTs, List.mem_cons, List.not_mem_nil, or_false] at ht
  rcases ht with rfl | rfl | rfl | rfl | rfl | rfl | rfl | rfl | rfl | rfl | rfl
  · rw [k.par]; omega
  · have := n8 _ k.num; omega
  · have := n8 _ k.tim; omega
  · have := n8 _ k.lim; omega
  · have := n8 _ k.use; omega
  · rw [k.kee]; omega
  · rw [k.blo]; omega
  · rw [k.sta]; omega
  · rw [k.txs]; omega
  · rw [k.rcs]; omega
  · rw [k.nex]; omega
theorem flat_short : ∀ (ts : List (List UInt8)), (∀ t ∈ ts, t.length ≤ 32) → (ts.flatMap textB).length ≤ 41 * ts.length
  | [], _ => by simp
  | t :: ts, h => by
    rw [List.flatMap_cons, List.length_append, List.length_cons]
    have h1 := textB_short (h t List.mem_cons_self)
    have h2 := flat_short ts (fun x hx => h x (List.mem_cons_of_mem _ hx))
    omega
theorem wH_len {h : Hd} (k : h.Ok) : (wH h).length ≤ 1000 := by
  have h1 := flat_short (hTs h) (hTs_short k)
  have h2 : (hTs h).length = 11 := rfl
  unfold wH lsB
  rw [List.length_append]
  have h3 : (headB 192 ((hTs h).flatMap textB).length).length ≤ 9 := by
    unfold headB
    split
    · simp
    · have := numB_8 ((hTs h).flatMap textB).length (by omega)
      rw [List.length_cons]; omega
  omega
theorem txt_inj : ∀ {a b : List (List UInt8)}, a.map Pit.txt = b.map Pit.txt → a = b
  | [], [], _ => rfl
  | [], _ :: _, h => by simp at h
  | _ :: _, [], h => by simp at h
  | x :: a, y :: b, h => by
    simp only [List.map_cons, List.cons.injEq, Pit.txt.injEq] at h
    rw [h.1, txt_inj h.2]
theorem numB_inj {x y : Nat} (hx : x < 18446744073709551616) (hy : y < 18446744073709551616) (h : numB x = numB y) : x = y := by
  rw [← numB_num x (by unfold W256; omega), ← numB_num y (by unfold W256; omega), h]
theorem wH_inj {h g : Hd} (k : h.Ok) (j : g.Ok) (e : wH h = wH g) : h = g := by
  have hl := wH_len k
  unfold wH at e hl
  rw [lsB_enc] at hl
  rw [lsB_enc, lsB_enc] at e
  have := encP_inj (by omega) e
  injection this with e2
  have e3 := txt_inj e2
  unfold hTs at e3
  simp only [List.cons.injEq, and_true] at e3
  obtain ⟨a1, a2, a3, a4, a5, a6, a7, a8, a9, a10, a11⟩ := e3
  cases h; cases g
  simp only [Hd.mk.injEq]
  exact ⟨a1, numB_inj k.num j.num a2, numB_inj k.tim j.tim a3, a6, numB_inj k.lim j.lim a4, numB_inj k.use j.use a5, a7, a8, a9, a10, a11⟩
/-- the zero header -/
def zeroB (n : Nat) : List UInt8 := List.replicate n 0
def zH : Hd := ⟨zeroB 32, 0, 0, zeroB 8, 0, 0, zeroB 32, zeroB 32, zeroB 32, zeroB 32, zeroB 32⟩
theorem zH_ok : zH.Ok := ⟨rfl, by decide, by decide, rfl, by decide, by decide, rfl, rfl, rfl, rfl, rfl⟩
/-- what reading a header's bytes answers -/
def RdHd (b : List UInt8) (h : Hd) (e : Int) : Prop := (e = 0 ∧ wH h = b) ∨ (e = 1 ∧ h = zH ∧ ∀ g : Hd, g.Ok → wH g ≠ b)
theorem RdHd.one {b : List UInt8} {h g : Hd} {e f : Int} (k : h.Ok) (j : g.Ok) (x : RdHd b h e) (y : RdHd b g f) : h = g ∧ e = f := by
  rcases x with ⟨rfl, x⟩ | ⟨rfl, rfl, x⟩ <;> rcases y with ⟨rfl, y⟩ | ⟨rfl, rfl, y⟩
  · exact ⟨wH_inj k j (x.trans y.symm), rfl⟩
  · exact absurd x (y h k)
  · exact absurd y (x g j)
  · exact ⟨rfl, rfl⟩
/-- 'copy' into noughts -/
def cpy (n : Nat) (t : List UInt8) : List UInt8 := t.take n ++ List.replicate (n - t.length) 0
theorem cpy_len (n : Nat) (t : List UInt8) : (cpy n t).length = n := by unfold cpy; simp; omega
theorem cpy_full {n : Nat} {t : List UInt8} (h : t.length = n) : cpy n t = t := by unfold cpy; rw [List.take_of_length_le (by omega), h, Nat.sub_self]; simp
def rdH (nf : List UInt8 → Nat) (ts : List (List UInt8)) : Hd :=
  let g := fun i => ts[i]?.getD []
  ⟨cpy 32 (g 0), nf (g 1), nf (g 2), cpy 8 (g 5), nf (g 3), nf (g 4), cpy 32 (g 6), cpy 32 (g 7), cpy 32 (g 8), cpy 32 (g 9), cpy 32 (g 10)⟩
theorem rdH_ok {nf : List UInt8 → Nat} (hf : ∀ t, nf t < 18446744073709551616) (ts : List (List UInt8)) : (rdH nf ts).Ok :=
  ⟨cpy_len _ _, hf _, hf _, cpy_len _ _, hf _, hf _, cpy_len _ _, cpy_len _ _, cpy_len _ _, cpy_len _ _, cpy_len _ _⟩
theorem rdH_self {nf : List UInt8 → Nat} (hf : ∀ x < 18446744073709551616, nf (numB x) = x) {h : Hd} (k : h.Ok) : rdH nf (hTs h) = h := by
  cases h
  simp only [rdH, hTs, List.getElem?_cons_zero, List.getElem?_cons_succ, Option.getD_some, Hd.mk.injEq]
  exact ⟨cpy_full k.par, hf _ k.num, hf _ k.tim, cpy_full k.kee, hf _ k.lim, hf _ k.use, cpy_full k.blo, cpy_full k.sta, cpy_full k.txs, cpy_full k.rcs, cpy_full k.nex⟩
def nfP (t : List UInt8) : Nat := lim (numV t) 0
def nfR (t : List UInt8) : Nat := lim (numL (last32 t)) 0
theorem lim_small {x : Nat} (h : x < 18446744073709551616) : lim x 0 = x := by unfold lim; simp; exact h
theorem nfP_num : ∀ x < 18446744073709551616, nfP (numB x) = x := by
  intro x hx
  unfold nfP
  have h8 := numB_8 x hx
  have hok : okNum (numB x) = true := by
    unfold okNum
    have := bare_head (wb x)
    simp only [Bool.and_eq_true, decide_eq_true_eq, Bool.not_eq_true', beq_eq_false_iff_ne]
    exact ⟨by omega, this⟩
  unfold numV
  rw [if_pos hok, numB_num x (by unfold W256; omega), lim_small hx]
theorem nfR_num : ∀ x < 18446744073709551616, nfR (numB x) = x := by
  intro x hx
  unfold nfR
  have h8 := numB_8 x hx
  rw [last_small _ (by omega), numB_num x (by unfold W256; omega), lim_small hx]
end Go.Proofs.Ytffkjjpjfehcnaa
