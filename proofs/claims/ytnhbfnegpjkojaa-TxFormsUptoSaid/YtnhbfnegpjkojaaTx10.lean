/- Logs in a world; their texts; a list of texts in the making. -/
import Derived.Test.YtnhbfnegpjkojaaTx1
import Derived.Test.YtnhbfnegpjkojaaKids
set_option linter.unusedSimpArgs false
set_option linter.unusedVariables false
namespace Go.Proofs.Ytnhbfnegpjkojaa
open Go.RowKit
/-- a log, with the values that it lies there as -/
structure Lgv where
  addr : List UInt8
  len : addr.length = 8
  tv : Value
  tops : List Nat
  dv : Value
  dat : List UInt8
def lgc (l : Lgv) : List Value := by8 l.addr ++ [l.tv, l.dv]
theorem lgc_len (l : Lgv) : (lgc l).length = 10 := by unfold lgc; rw [List.length_append, by8_len, l.len]; rfl
structure Lgv.In (w : World) (l : Lgv) : Prop where
  ht : RowOf wcs 4 w l.tv l.tops
  hd : Bytes w l.dv l.dat
theorem Lgv.In.kept {w w' : World} {l : Lgv} (h : l.In w) (hb : Below w.heap.size w w') : l.In w' := ⟨h.ht.below hb, h.hd.below hb⟩
def Logs (w : World) (v : Value) (ls : List Lgv) : Prop := RowOf lgc 10 w v ls ∧ ∀ l ∈ ls, l.In w
theorem Logs.kept {w w' : World} {v : Value} {ls : List Lgv} (h : Logs w v ls) (hb : Below w.heap.size w w') : Logs w' v ls := ⟨h.1.below hb, fun l hl => (h.2 l hl).kept hb⟩
theorem aggLog : Agg Try.prog 143 10 := ⟨_, Try.underlying143, rfl, by kernel_rfl⟩
theorem elLog : El0 Try.prog 78 143 (.agg #[.int .u8 0, .int .u8 0, .int .u8 0, .int .u8 0, .int .u8 0, .int .u8 0, .int .u8 0, .int .u8 0, .slice none 0 0, .slice none 0 0]) 10 56 lgc := ⟨by kernel_rfl, by kernel_rfl, rfl, by omega, lgc_len⟩
theorem lgc_addr (l : Lgv) : ((lgc l).drop 0).take 8 = by8 l.addr := mid_drop [] _ _ 0 8 rfl (by rw [by8_len, l.len])
theorem lgc_tops (l : Lgv) : (lgc l)[8]? = some l.tv := by
  unfold lgc
  rw [List.getElem?_append_right (by rw [by8_len, l.len]; omega), by8_len, l.len]; rfl
theorem lgc_dat (l : Lgv) : (lgc l)[9]? = some l.dv := by
  unfold lgc
  rw [List.getElem?_append_right (by rw [by8_len, l.len]; omega), by8_len, l.len]; rfl
theorem lgc_one (l : Lgv) (h1 : l.tv.oneCell' = true) (h2 : l.dv.oneCell' = true) : ∀ u ∈ lgc l, u.oneCell' = true := by
  intro u hu
  unfold lgc at hu
  simp only [List.mem_append, List.mem_cons, List.not_mem_nil, or_false] at hu
  rcases hu with hu | rfl | rfl
  · obtain ⟨x, _, rfl⟩ := List.mem_map.1 hu; rfl
  · exact h1
  · exact h2
/-- by which texts it is looked for -/
def lgTs (l : Lgv) : List (List UInt8) := l.addr :: l.tops.map wb
def lgM (l : Lgv) : Nat := 1 + l.tops.length + l.dat.length
theorem lgTs_len (ls : List Lgv) : (ls.flatMap lgTs).length ≤ (ls.map lgM).sum := by
  induction ls with
  | nil => simp
  | cons l ls ih =>
    rw [List.flatMap_cons, List.length_append, List.map_cons, List.sum_cons]
    have : (lgTs l).length = 1 + l.tops.length := by unfold lgTs; rw [List.length_cons, List.length_map]; omega
    unfold lgM
    unfold lgM at ih
    omega
theorem lgTs_next {ls : List Lgv} {k : Nat} (h : k < ls.length) : (ls.take (k + 1)).flatMap lgTs = (ls.take k).flatMap lgTs ++ lgTs ls[k] := by
  rw [List.take_succ_eq_append_getElem h, List.flatMap_append]
  simp
theorem lgTs_pre {ls : List Lgv} {k : Nat} (h : k < ls.length) : ((ls.take k).flatMap lgTs).length + 1 + ls[k].tops.length ≤ (ls.map lgM).sum := by
  have h1 := lgTs_len ls
  have h2 : (ls.flatMap lgTs).length = ((ls.take (k + 1)).flatMap lgTs).length + ((ls.drop (k + 1)).flatMap lgTs).length := by
    rw [← List.length_append, ← List.flatMap_append, List.take_append_drop]
  have h3 := congrArg List.length (lgTs_next h)
  rw [List.length_append] at h3
  have : (lgTs ls[k]).length = 1 + ls[k].tops.length := by unfold lgTs; rw [List.length_cons, List.length_map]; omega
  omega
/-- a list of texts that a call makes -/
structure TlW (w : World) (ov : Value) (ps : List (Value × List UInt8)) (u : World) : Prop where
  hb : Below w.heap.size w u
  oo : OwnOf tcell 1 22 u w.heap.size ov ps
  tx : ∀ p ∈ ps, Bytes u p.1 p.2 ∧ ∀ k, p.1.ownBlock = some k → w.heap.size ≤ k ∧ k < u.heap.size ∧ ov.ownBlock ≠ some k
theorem TlW.nil (w : World) : TlW w (.slice none 0 0) [] w := ⟨Below.refl _ _, OwnOf.nil tcell 1 _ _ _, by simp⟩
theorem TlW.kept {w u u' : World} {ov : Value} {ps : List (Value × List UInt8)} (h : TlW w ov ps u) (hb : Below u.heap.size u u') : TlW w ov ps u' :=
  ⟨Below.then h.hb hb, h.oo.kept hb, fun p hp => ⟨RowOf.kept (h.tx p hp).1 hb, fun k hk => by
    obtain ⟨h1, h2, h3⟩ := (h.tx p hp).2 k hk
    exact ⟨h1, Nat.lt_of_lt_of_le h2 hb.size, h3⟩⟩⟩
theorem TlW.grew {w u u' : World} {ov ov' : Value} {ps : List (Value × List UInt8)} {p : Value × List UInt8} (h : TlW w ov ps u) (hp : Bytes u p.1 p.2 ∧ ∀ k, p.1.ownBlock = some k → w.heap.size ≤ k ∧ k < u.heap.size ∧ ov.ownBlock ≠ some k) (hg : u.grownBy u' ov.ownBlock) (ho : OwnOf tcell 1 22 u' w.heap.size ov' (ps ++ [p]))
    (hpp : ∀ k, ov'.ownBlock = some k → ov.ownBlock = some k ∨ u.heap.size ≤ k) : TlW w ov' (ps ++ [p]) u' := by
  have hall : ∀ q : Value × List UInt8, (Bytes u q.1 q.2 ∧ ∀ k, q.1.ownBlock = some k → w.heap.size ≤ k ∧ k < u.heap.size ∧ ov.ownBlock ≠ some k) → Bytes u' q.1 q.2 ∧ ∀ k, q.1.ownBlock = some k → w.heap.size ≤ k ∧ k < u'.heap.size ∧ ov'.ownBlock ≠ some k := by
    rintro q ⟨h1, h2⟩
    refine ⟨RowOf.grownT h1 hg (fun x hx => (h2 x hx).2.1) (fun x hx => (h2 x hx).2.2), fun k hk => ?_⟩
    obtain ⟨a1, a2, a3⟩ := h2 k hk
    refine ⟨a1, Nat.lt_of_lt_of_le a2 hg.size, fun e => ?_⟩
    rcases hpp k e with h3 | h3
    · exact a3 h3
    · omega
  refine ⟨h.hb.grown hg h.hb.size (fun k hk => h.oo.lt k hk), ho, fun q hq => ?_⟩
  rcases List.mem_append.1 hq with hq | hq
  · exact hall q (h.tx q hq)
  · rw [List.mem_singleton] at hq; subst hq; exact hall q hp
theorem TlW.texts {w u : World} {ov : Value} {ps : List (Value × List UInt8)} (h : TlW w ov ps u) : Texts u ov ps := ⟨h.oo.row, fun p hp => (h.tx p hp).1⟩
/-- a fresh text -/
theorem TlW.fresh {w u : World} {ov : Value} {ps : List (Value × List UInt8)} (h : TlW w ov ps u) {u' : World} {v : Value} {t : List UInt8} (hb : Below u.heap.size u u') (ht : Bytes u' v t) (hk : ∀ k, v.ownBlock = some k → u.heap.size ≤ k ∧ k < u'.heap.size) : Bytes u' (v, t).1 (v, t).2 ∧ ∀ k, (v, t).1.ownBlock = some k → w.heap.size ≤ k ∧ k < u'.heap.size ∧ ov.ownBlock ≠ some k := by
  refine ⟨ht, fun k he => ?_⟩
  obtain ⟨h1, h2⟩ := hk k he
  refine ⟨Nat.le_trans h.hb.size h1, h2, fun e => ?_⟩
  have := own_ltK h.oo e
  omega
end Go.Proofs.Ytnhbfnegpjkojaa
