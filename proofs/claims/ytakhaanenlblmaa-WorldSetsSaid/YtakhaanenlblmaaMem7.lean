/- What a memory does: plain Lean; copying into a row of one's own. -/
import Derived.Test.YtakhaanenlblmaaMem6
import Derived.Test.YtakhaanenlblmaaRdg
set_option linter.unusedSimpArgs false
set_option linter.unusedVariables false
namespace Go.Proofs.Ytakhaanenlblmaa
open Go.RowKit
structure Mop where
  k : Int
  A : Nat
  F : Nat
  L : Nat
  X : Nat
  dv : Value
  D : List UInt8
structure Mop.Ok (o : Mop) : Prop where
  A : o.A < W256
  F : o.F < W256
  L : o.L < W256
  X : o.X < W256
  D : o.D.length < 18446744073709551616
def Mop.In (W : World) (o : Mop) : Prop := Bytes W o.dv o.D
def mopc (o : Mop) : List Value := [.int .i64 o.k] ++ (wcs o.A ++ (wcs o.F ++ (wcs o.L ++ (wcs o.X ++ [o.dv]))))
theorem mopc_len (o : Mop) : (mopc o).length = 18 := rfl
structure Man where
  err : Nat
  word : Nat
  cost : Nat
def manc (a : Man) : List Value := [.int .i64 (a.err : Int)] ++ (wcs a.word ++ [.int .u64 (a.cost : Int)])
theorem manc_len (a : Man) : (manc a).length = 6 := rfl
/-- the bytes that an operation is about -/
def spanN (o : Mop) : Option Nat := if o.k = 1 ∨ o.k = 2 then some 32 else if o.k = 3 then some 1 else if o.k = 4 then some o.L else if o.k = 5 then some o.D.length else none
def fromN (o : Mop) : Nat := if o.k = 4 then o.L else 0
def sizeM (b : Nat) (o : Mop) (N : Nat) : Option Nat := match needP b o.A N, needP b o.F (fromN o) with
  | some x, some y => some (max x y)
  | _, _ => none
def dataM (M : List UInt8) (o : Mop) : List UInt8 := if o.k = 2 then wb o.X else if o.k = 3 then (wb o.X).drop 31 else if o.k = 4 then (M.drop o.F).take o.L else if o.k = 5 then o.D else []
def putM (M : List UInt8) (a : Nat) (d : List UInt8) : List UInt8 := M.take a ++ (d ++ M.drop (a + d.length))
def wordM (M : List UInt8) (o : Mop) : Nat := if o.k = 1 then numL ((M.drop o.A).take 32) else 0
def stepM (M : List UInt8) (o : Mop) : List UInt8 × Man := match spanN o with
  | none => (M, ⟨30, 0, 0⟩)
  | some N => match sizeM M.length o N with
    | none => (M, ⟨6, 0, 0⟩)
    | some s => (putM (growM M s) o.A (dataM (growM M s) o), ⟨0, wordM (growM M s) o, priceN M.length s⟩)
def playM : List UInt8 → List Mop → List UInt8 × List Man
  | M, [] => (M, [])
  | M, o :: r => ((playM (stepM M o).1 r).1, (stepM M o).2 :: (playM (stepM M o).1 r).2)
theorem needP_le {b A N s : Nat} (hb : b ≤ 4096) (h : needP b A N = some s) : b ≤ s ∧ s ≤ 4096 ∧ (N = 0 ∨ A + N ≤ s) := by
  unfold needP at h
  split at h
  · simp only [Option.some.injEq] at h; omega
  · split at h
    · cases h
    · simp only [Option.some.injEq] at h; omega
theorem needP_mod {b A N s : Nat} (hb : b % 32 = 0) (h : needP b A N = some s) : s % 32 = 0 := by
  unfold needP at h
  split at h
  · simp only [Option.some.injEq] at h; omega
  · split at h
    · cases h
    · simp only [Option.some.injEq] at h; omega
theorem sizeM_le {b N s : Nat} {o : Mop} (hb : b ≤ 4096) (h : sizeM b o N = some s) : b ≤ s ∧ s ≤ 4096 ∧ (N = 0 ∨ o.A + N ≤ s) ∧ (fromN o = 0 ∨ o.F + fromN o ≤ s) := by
  unfold sizeM at h
  split at h
  · rename_i x y hx hy
    simp only [Option.some.injEq] at h
    have := needP_le hb hx
    have := needP_le hb hy
    omega
  · cases h
theorem sizeM_mod {b N s : Nat} {o : Mop} (hb : b % 32 = 0) (h : sizeM b o N = some s) : s % 32 = 0 := by
  unfold sizeM at h
  split at h
  · rename_i x y hx hy
    simp only [Option.some.injEq] at h
    have := needP_mod hb hx
    have := needP_mod hb hy
    rcases Nat.le_total x y with h1 | h1
    · rw [Nat.max_eq_right h1] at h; omega
    · rw [Nat.max_eq_left h1] at h; omega
  · cases h
theorem putM_len {M d : List UInt8} {a : Nat} (h : d.length = 0 ∨ a + d.length ≤ M.length) : (putM M a d).length = M.length := by
  unfold putM
  rw [List.length_append, List.length_append, List.length_take, List.length_drop]
  omega
theorem putM_nil (M : List UInt8) (a : Nat) : putM M a [] = M := by unfold putM; simp
/-- how much is written -/
theorem dataM_len {M : List UInt8} {o : Mop} {N : Nat} (hs : spanN o = some N) (hF : fromN o = 0 ∨ o.F + fromN o ≤ M.length) : (dataM M o).length = 0 ∨ (dataM M o).length = N := by
  unfold spanN at hs
  unfold dataM
  unfold fromN at hF
  split at hs
  · rename_i h1
    simp only [Option.some.injEq] at hs
    rcases h1 with h1 | h1
    · rw [h1]; simp
    · rw [h1]; right; simp [wb_len]; exact hs
  · split at hs
    · rename_i h1
      simp only [Option.some.injEq] at hs
      rw [h1]; right; simp [wb_len]; exact hs
    · split at hs
      · rename_i h1
        simp only [Option.some.injEq] at hs
        rw [h1] at hF ⊢
        right
        simp at hF ⊢
        omega
      · split at hs
        · rename_i h1
          simp only [Option.some.injEq] at hs
          rw [h1]; right; simp; exact hs
        · cases hs
theorem stepM_ok {M : List UInt8} (o : Mop) (hM : M.length ≤ 4096) (h32 : M.length % 32 = 0) : (stepM M o).1.length ≤ 4096 ∧ (stepM M o).1.length % 32 = 0 := by
  unfold stepM
  split
  · exact ⟨hM, h32⟩
  · rename_i N hN
    split
    · exact ⟨hM, h32⟩
    · rename_i s hs
      have h1 := sizeM_le hM hs
      have h2 := sizeM_mod h32 hs
      have h3 : (growM M s).length = s := by rw [growM_len]; omega
      have h4 := dataM_len (M := growM M s) hN (by rw [h3]; exact h1.2.2.2)
      have h5 : (putM (growM M s) o.A (dataM (growM M s) o)).length = s := by rw [putM_len (by rw [h3]; omega), h3]
      show (putM (growM M s) o.A (dataM (growM M s) o)).length ≤ 4096 ∧ (putM (growM M s) o.A (dataM (growM M s) o)).length % 32 = 0
      rw [h5]
      exact ⟨h1.2.1, h2⟩
/-- what lies in an own row's block behind a copy into it -/
theorem OwnOf.spliced {e : TypeId} {w w' : World} {B g n c : Nat} {l : List UInt8} (h : OwnOf b8 1 e w B (.slice (some ⟨g, 0, none⟩) n c) l) {cur : List Value} (hc : Blk e w g cur) (off : Nat) (d : List UInt8) (hf : off + d.length ≤ n) (h' : Blk e w' g (splice cur off (by8 d))) :
    OwnOf b8 1 e w' B (.slice (some ⟨g, 0, none⟩) n c) (putM l off d) := by
  obtain ⟨cs, hb, hl, hnc, hB, ht, hn, hm⟩ := h.blk one_u8
  obtain rfl : cur = cs := by
    have h1 : w.heap[g]? = some (.cells cur.toArray e (0, 0)) := hc
    have h2 : w.heap[g]? = some (.cells cs.toArray e (0, 0)) := hb
    rw [h1] at h2
    simpa using h2
  refine OwnOf.ofBlk one_u8 h' ?_ hnc hB ?_ ?_ hm
  · unfold splice
    rw [List.length_append, List.length_append, List.length_take, List.length_drop, by8_len]
    omega
  · have e1 : l.map u8v = cur.take n := ht.symm
    unfold splice putM
    rw [List.map_append, List.map_append, List.map_take, List.map_drop, e1, List.take_append, List.take_append, List.take_take, List.drop_take, List.take_take]
    have e2 : (List.take off cur).length = off := by rw [List.length_take]; omega
    rw [e2, by8_len]
    have e3 : List.take (n - off) (by8 d) = List.map u8v d := by rw [List.take_of_length_le (by rw [by8_len]; omega)]; rfl
    rw [e3, Nat.min_eq_right (by omega : off ≤ n), Nat.min_eq_left (by omega : off ≤ n), Nat.sub_sub]
  · rw [putM_len (by omega)]; exact hn
end Go.Proofs.Ytakhaanenlblmaa
