/- The reference's one: what lies there. -/
import Derived.Test.YtakhaanenlblmaaMem12
import Derived.Test.YtakhaanenlblmaaMem8
import Derived.Test.YtakhaanenlblmaaMem1
set_option linter.unusedSimpArgs false
set_option linter.unusedVariables false
namespace Go.Proofs.Ytakhaanenlblmaa
open Go.RowKit
def kmc (b sz : Nat) : List Value := [.map (some b), .int .u64 (sz : Int)]
def z2k : List Value := [.map none, .int .u64 0]
theorem aggKm : Agg Try.prog 122 2 := ⟨_, Try.underlying122, rfl, by kernel_rfl⟩
def fA (o : Mop) : Nat := if o.k = 4 then o.F else o.A
theorem need_fA (b : Nat) (o : Mop) : needP b (fA o) (fromN o) = needP b o.F (fromN o) := by
  unfold fA fromN
  split
  · rfl
  · unfold needP; rw [if_pos rfl, if_pos rfl]
theorem fA_lt {o : Mop} (k : o.Ok) : fA o < W256 := by unfold fA; split; exact k.F; exact k.A
theorem fromN_lt {o : Mop} (k : o.Ok) : fromN o < W256 := by unfold fromN; split; exact k.L; unfold W256; omega
/-- the boxes, the results' cells, the three words -/
structure OnW (w : World) (o : Mop) (b sz N F K g6 g7 g8 : Nat) (u : World) : Prop where
  m : Blk 122 u w.heap.size (kmc b sz)
  o : Blk 118 u (w.heap.size + 1) (mopc o)
  r : Blk 122 u (w.heap.size + 2) z2k
  a : Blk 42 u (w.heap.size + 3) z6
  n : Blk 40 u g6 (wcs N)
  f : Blk 40 u g7 (wcs F)
  k : Blk 40 u g8 (wcs K)
  bel : Below w.heap.size w u
theorem OnW.kept {w u u' : World} {o : Mop} {b sz N F K g6 g7 g8 : Nat} (h : OnW w o b sz N F K g6 g7 g8 u) (hb : Below u.heap.size u u') : OnW w o b sz N F K g6 g7 g8 u' :=
  ⟨h.m.kept hb, h.o.kept hb, h.r.kept hb, h.a.kept hb, h.n.kept hb, h.f.kept hb, h.k.kept hb, Below.then h.bel hb⟩
/-- without the words -/
structure BxW (w : World) (o : Mop) (b sz : Nat) (u : World) : Prop where
  m : Blk 122 u w.heap.size (kmc b sz)
  o : Blk 118 u (w.heap.size + 1) (mopc o)
  r : Blk 122 u (w.heap.size + 2) z2k
  a : Blk 42 u (w.heap.size + 3) z6
  bel : Below w.heap.size w u
theorem BxW.kept {w u u' : World} {o : Mop} {b sz : Nat} (h : BxW w o b sz u) (hb : Below u.heap.size u u') : BxW w o b sz u' :=
  ⟨h.m.kept hb, h.o.kept hb, h.r.kept hb, h.a.kept hb, Below.then h.bel hb⟩
theorem BxW.start (w : World) (o : Mop) (b sz : Nat) : BxW w o b sz ((((w.alloc (.cells (kmc b sz).toArray 122)).alloc (.cells (mopc o).toArray 118)).alloc (.cells z2k.toArray 122)).alloc (.cells z6.toArray 42)) where
  m := (((Blk.new w 122 (kmc b sz)).alloc _).alloc _).alloc _
  o := by have := (Blk.new (w.alloc (.cells (kmc b sz).toArray 122)) 118 (mopc o)).alloc (.cells z2k.toArray 122) |>.alloc (.cells z6.toArray 42); simpa using this
  r := by have := (Blk.new ((w.alloc (.cells (kmc b sz).toArray 122)).alloc (.cells (mopc o).toArray 118)) 122 z2k).alloc (.cells z6.toArray 42); simpa using this
  a := by have := Blk.new (((w.alloc (.cells (kmc b sz).toArray 122)).alloc (.cells (mopc o).toArray 118)).alloc (.cells z2k.toArray 122)) 42 z6; simpa using this
  bel := ((((Below.refl w.heap.size w).alloc (Nat.le_refl _) _).alloc (by simp) _).alloc (by simp; omega) _).alloc (by simp; omega) _
theorem OnW.bx {w u : World} {o : Mop} {b sz N F K g6 g7 g8 : Nat} (h : OnW w o b sz N F K g6 g7 g8 u) : BxW w o b sz u := ⟨h.m, h.o, h.r, h.a, h.bel⟩
theorem OnW.setN {w u u' : World} {o : Mop} {b sz N N' F K g6 g7 g8 : Nat} {KN : List Value} (h : OnW w o b sz N F K g6 g7 g8 u) (hz : Blk 40 u' g6 KN) (hg : u.grownBy u' (some g6)) (h6 : w.heap.size + 3 < g6) (h7 : g6 ≠ g7) (h8 : g6 ≠ g8) (hK : KN = wcs N') : OnW w o b sz N' F K g6 g7 g8 u' where
  m := h.m.grown hg (by intro e; injection e; omega)
  o := h.o.grown hg (by intro e; injection e; omega)
  r := h.r.grown hg (by intro e; injection e; omega)
  a := h.a.grown hg (by intro e; injection e; omega)
  n := by rw [← hK]; exact hz
  f := h.f.grown hg (by intro e; injection e; omega)
  k := h.k.grown hg (by intro e; injection e; omega)
  bel := h.bel.grown hg h.bel.size (fun j hj => by simp only [Option.some.injEq] at hj; omega)
theorem OnW.setF {w u u' : World} {o : Mop} {b sz N F F' K g6 g7 g8 : Nat} {KN : List Value} (h : OnW w o b sz N F K g6 g7 g8 u) (hz : Blk 40 u' g7 KN) (hg : u.grownBy u' (some g7)) (h6 : w.heap.size + 3 < g7) (h7 : g6 ≠ g7) (h8 : g7 ≠ g8) (hK : KN = wcs F') : OnW w o b sz N F' K g6 g7 g8 u' where
  m := h.m.grown hg (by intro e; injection e; omega)
  o := h.o.grown hg (by intro e; injection e; omega)
  r := h.r.grown hg (by intro e; injection e; omega)
  a := h.a.grown hg (by intro e; injection e; omega)
  n := h.n.grown hg (by intro e; injection e; omega)
  f := by rw [← hK]; exact hz
  k := h.k.grown hg (by intro e; injection e; omega)
  bel := h.bel.grown hg h.bel.size (fun j hj => by simp only [Option.some.injEq] at hj; omega)
theorem OnW.setK {w u u' : World} {o : Mop} {b sz N F K K' g6 g7 g8 : Nat} {KN : List Value} (h : OnW w o b sz N F K g6 g7 g8 u) (hz : Blk 40 u' g8 KN) (hg : u.grownBy u' (some g8)) (h6 : w.heap.size + 3 < g8) (h7 : g6 ≠ g8) (h8 : g7 ≠ g8) (hK : KN = wcs K') : OnW w o b sz N F K' g6 g7 g8 u' where
  m := h.m.grown hg (by intro e; injection e; omega)
  o := h.o.grown hg (by intro e; injection e; omega)
  r := h.r.grown hg (by intro e; injection e; omega)
  a := h.a.grown hg (by intro e; injection e; omega)
  n := h.n.grown hg (by intro e; injection e; omega)
  f := h.f.grown hg (by intro e; injection e; omega)
  k := by rw [← hK]; exact hz
  bel := h.bel.grown hg h.bel.size (fun j hj => by simp only [Option.some.injEq] at hj; omega)
/-- what one answers -/
def OnePost (o : Mop) (b n : Nat) (M : List UInt8) (w : World) (e : Ending) (w' : World) : Prop :=
  ∃ b' n', e = .returned (.tuple #[.agg (kmc b' (stepM M o).1.length).toArray, .agg (manc (stepM M o).2).toArray]) ∧ KM w' b' n' (stepM M o).1 ∧ n' ≤ n + 4096 ∧ Below w.heap.size w w'
theorem priceN_sub {b s : Nat} (h : b ≤ s) : priceN b s = costN (s / 32) - costN (b / 32) := by
  unfold priceN
  split
  · obtain rfl : s = b := by omega
    omega
  · rfl
theorem putM_at {M d : List UInt8} {a : Nat} (h : a + d.length ≤ M.length) (j : Nat) : (putM M a d)[j]? = if j < a then M[j]? else if j < a + d.length then d[j - a]? else M[j]? := by
  unfold putM
  have hta : (M.take a).length = a := by rw [List.length_take]; omega
  by_cases h1 : j < a
  · rw [if_pos h1, List.getElem?_append_left (by omega), List.getElem?_take, if_pos h1]
  · rw [if_neg h1, List.getElem?_append_right (by omega), hta]
    by_cases h2 : j < a + d.length
    · rw [if_pos h2, List.getElem?_append_left (by omega)]
    · rw [if_neg h2, List.getElem?_append_right (by omega), List.getElem?_drop]
      congr 1
      omega
theorem putM_step {M d : List UInt8} {a i : Nat} (hi : i < d.length) (h : a + d.length ≤ M.length) : putM M a (d.take (i + 1)) = (putM M a (d.take i)).set (a + i) d[i] := by
  have l1 : (d.take (i + 1)).length = i + 1 := by rw [List.length_take]; omega
  have l0 : (d.take i).length = i := by rw [List.length_take]; omega
  have hl1 : (putM M a (d.take i)).length = M.length := putM_len (by right; omega)
  refine List.ext_getElem? fun j => ?_
  rw [List.getElem?_set, hl1, putM_at (by omega), putM_at (by omega), l1, l0]
  by_cases h1 : j < a
  · rw [if_pos h1, if_neg (by omega), if_pos h1]
  · rw [if_neg h1]
    by_cases h2 : a + i = j
    · rw [if_pos (by omega), if_pos h2, if_pos (by omega), ← h2, Nat.add_sub_cancel_left, List.getElem?_take, if_pos (by omega), List.getElem?_eq_getElem hi]
    · rw [if_neg h2, if_neg h1]
      by_cases h3 : j < a + i
      · rw [if_pos (by omega), if_pos h3, List.getElem?_take, List.getElem?_take, if_pos (by omega), if_pos (by omega)]
      · rw [if_neg (by omega), if_neg h3]
theorem reachV_form (q : Option Nat) : ∃ (v : Nat) (c : Bool), reachV q = .tuple #[.int .u64 (v : Int), .bool c] ∧ (c = true → q = some v) ∧ (c = false → q = none) := by
  cases q with
  | none => exact ⟨0, false, rfl, by simp, by simp⟩
  | some v => exact ⟨v, true, rfl, by simp, by simp⟩
/-- a pointer to a new block -/
def PtrT (e : TypeId) (cs : List Value) (B : Nat) : Ty := fun v w => ∃ g, v = .pointer (some ⟨g, 0, none⟩) ∧ Blk e w g cs ∧ B ≤ g
theorem PtrT.mono (e : TypeId) (cs : List Value) (B : Nat) : Mono (PtrT e cs B) := fun _ _ _ ⟨g, h1, h2, h3⟩ hb => ⟨g, h1, h2.kept hb, h3⟩
/-- '!=' in a plain region, by its run -/
theorem wpList_neqC {P : Program} {w : World} {ops : Array Oper} {rest : List Oper} {o : Oper} {a : Act} {Q : Exit → Act → World → Prop} (hgd : o.guard = none) (ty : TypeId) (x y : Operand) (t : TypeId) (ho : o.op = .binOp .neq ty x y t) {v v' u : Value} (hx : a.eval x = v) (hy : a.eval y = v')
    (hg : ∀ o1 o2 w1, (eqGuard .neq ty o1 o2 v v').run P w1 = .ok () w1) (hq : ∀ w1, (binOp .neq ty v v').run P w1 = .ok u w1) (h : wpList P ops Q rest (a.put o.dst u) w) : wpList P ops Q (o :: rest) a w := by
  refine wpList_plain hgd fun K hK => ?_
  unfold Oper.wp execOp
  simp only [ho, hx, hy, Sem.run_bind, hg, hq, Result.andThen_ok, Sem.run_pure]
  exact hK _ _ h
theorem neWN (N M : Nat) (hN : N < W256) (hM : M < W256) (w1 : World) : (binOp .neq 40 (.agg (wcs N).toArray) (.agg (wcs M).toArray)).run Try.prog w1 = .ok (.bool (!decide (N = M))) w1 := by
  have h := run_neA (P := Try.prog) (w := w1) (t := 40) (e := 36) (n := 4) (k := .u64) Try.underlying40 Try.underlying36 (by kernel_rfl) (limI N) (limI M) rfl rfl
  rw [limI_eq N M hN hM] at h
  exact h
theorem guardNeWN (N M : Nat) (o1 o2 : Operand) (w1 : World) : (eqGuard .neq 40 o1 o2 (.agg (wcs N).toArray) (.agg (wcs M).toArray)).run Try.prog w1 = .ok () w1 :=
  run_eqGuard_agg (P := Try.prog) (w := w1) .neq 40 o1 o2 _ _ (by kernel_rfl)
theorem wz0 : (wcs 0).toArray = #[.int .u64 0, .int .u64 0, .int .u64 0, .int .u64 0] := rfl
end Go.Proofs.Ytakhaanenlblmaa
