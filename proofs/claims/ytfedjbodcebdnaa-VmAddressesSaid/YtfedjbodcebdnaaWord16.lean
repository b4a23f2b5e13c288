/- word.product, word.Mul. -/
import Derived.Test.YtfedjbodcebdnaaWord15
set_option linter.unusedSimpArgs false
set_option linter.unusedVariables false
namespace Go.Proofs.Ytfedjbodcebdnaa
open Go.RowKit
theorem agg8 : Agg Try.prog 104 8 := ⟨_, Try.underlying104, rfl, by kernel_rfl⟩
/-- parts as cells -/
def pcs (D : List Nat) : List Value := D.map fun (d : Nat) => .int .u64 (d : Int)
theorem pcs_len (D : List Nat) : (pcs D).length = D.length := by simp [pcs]
theorem pcs_at (D : List Nat) (k : Nat) (h : k < D.length) : (pcs D)[k]? = some (.int .u64 (D[k] : Int)) := by simp [pcs, h]
theorem pcs_set (D : List Nat) (k x : Nat) : (pcs D).set k (.int .u64 (x : Int)) = pcs (D.set k x) := by simp [pcs, List.map_set]
theorem pcs_one (D : List Nat) : ∀ u ∈ pcs D, u.oneCell' = true := by
  intro u hu; obtain ⟨x, _, rfl⟩ := List.mem_map.1 hu; rfl
def z8w : List Value := pcs [0, 0, 0, 0, 0, 0, 0, 0]
/-- What the parts are behind i parts of N and j of M. -/
structure Parts (N M i j c : Nat) (D : List Nat) : Prop where
  len : D.length = 8
  lt : ∀ d ∈ D, d < B64
  val : valL D + c * B64 ^ (i + j) = prod N M i j
  zero : ∀ k (h : k < D.length), i + 4 ≤ k → D[k] = 0
  clt : c < B64
theorem Parts.step {N M i j c : Nat} {D : List Nat} (h : Parts N M i j c D) (hi : i < 4) (hj : j < 4) (x c2 : Nat) (hx : x < B64) (hc2 : c2 < B64) (hs : c2 * B64 + x = lim N i * lim M j + D[i + j]'(by rw [h.len]; omega) + c) :
    Parts N M i (j + 1) c2 (D.set (i + j) x) := by
  refine ⟨by rw [List.length_set]; exact h.len, fun d hd => ?_, prod_put N M i j c x D c2 (by rw [h.len]; omega) h.val hs, fun k hk hle => ?_, hc2⟩
  · rcases List.mem_or_eq_of_mem_set hd with h1 | h1
    · exact h.lt d h1
    · rw [h1]; exact hx
  · rw [List.getElem_set, if_neg (by omega)]; exact h.zero k (by simpa using hk) hle
theorem Parts.row {N M i c : Nat} {D : List Nat} (hM : M < W256) (h : Parts N M i 4 c D) (hi : i < 4) : Parts N M (i + 1) 0 0 (D.set (i + 4) c) := by
  have hl := h.len
  refine ⟨by rw [List.length_set]; exact h.len, fun d hd => ?_, ?_, fun k hk hle => ?_, by unfold B64; omega⟩
  · rcases List.mem_or_eq_of_mem_set hd with h1 | h1
    · exact h.lt d h1
    · rw [h1]; exact h.clt
  · have h1 := valL_set D (i + 4) c (by omega)
    rw [h.zero (i + 4) (by omega) (Nat.le_refl _)] at h1
    have h2 := h.val
    rw [prod_row N M i hM] at h2
    omega
  · rw [List.getElem_set, if_neg (by omega)]; exact h.zero k (by simpa using hk) (by omega)
theorem Parts.start (N M : Nat) : Parts N M 0 0 0 [0, 0, 0, 0, 0, 0, 0, 0] :=
  ⟨rfl, fun d hd => by simp at hd; rw [hd]; unfold B64; omega, by rw [prod_zero]; simp [valL, Nat.mod_one], fun k hk _ => by
    simp only [List.length_cons, List.length_nil] at hk
    rcases (show k = 0 ∨ k = 1 ∨ k = 2 ∨ k = 3 ∨ k = 4 ∨ k = 5 ∨ k = 6 ∨ k = 7 from by omega) with rfl | rfl | rfl | rfl | rfl | rfl | rfl | rfl <;> rfl, by unfold B64; omega⟩
/-- A row behind: no carry. -/
theorem Parts.next {N M i : Nat} {D : List Nat} (h : Parts N M i 0 0 D) : valL D = prod N M i 0 := by have := h.val; simpa using this
theorem part_word (N k : Nat) (hk : k < 4) (w : World) : (part 29 (wcs N).toArray k).run Try.prog w = .ok (.int .u64 (lim N k : Int)) w := by
  have hl : k < (limI N).length := by simpa [limI] using hk
  have h1 := run_part_int (P := Try.prog) w (e := 29) (k := .u64) (by kernel_rfl) (limI N) k hl
  have h2 : (limI N)[k] = (lim N k : Int) := by
    rcases (show k = 0 ∨ k = 1 ∨ k = 2 ∨ k = 3 from by omega) with rfl | rfl | rfl | rfl <;> simp [limI]
  rw [h2] at h1; exact h1
theorem run_index_agg {P : Program} {t e : TypeId} {n : Nat} (ht : P.underlying t = some (.array n e)) (hs : (P.info? e).map (·.size) = some 1) (cs : Array Value) (k : Nat) (hk : k < n) (w : World) {v : Value} (ik : IntKind)
    (hp : (part e cs k).run P w = .ok v w) : (Instr.index t (.agg cs) (.int ik (k : Int))).run P w = .ok v w := by
  cases hq : P.info? e with
  | none => simp [hq] at hs
  | some q =>
    have hs1 : q.size = 1 := by simpa [hq] using hs
    have hsz : (sizeOf e).run P w = .ok 1 w := by simp [sizeOf, typeInfo, hq, hs1]
    unfold Instr.index
    simp only [asIntOf, Sem.run_bind, Sem.run_pure, run_underlying ht, Result.andThen_ok]
    rw [if_pos (by omega)]
    simp only [Sem.run_bind, hsz, Result.andThen_ok]
    simpa using hp
theorem index_word (N k : Nat) (hk : k < 4) (w : World) : (Instr.index 65 (.agg (wcs N).toArray) (.int .i64 (k : Int))).run Try.prog w = .ok (.int .u64 (lim N k : Int)) w :=
  run_index_agg (n := 4) (e := 29) (by kernel_rfl) (by kernel_rfl) _ k hk w .i64 (part_word N k hk w)
theorem lim_mulN (N M k : Nat) (hk : k < 4) : lim (mulN N M) k = lim (N * M) k := by
  have := lim_below (N * M % W256) (N * M / W256) 32 4 k (by omega) hk
  rw [show N * M / W256 * 256 ^ 32 + N * M % W256 = N * M from by
    have := Nat.div_add_mod (N * M) W256
    rw [show (256 : Nat) ^ 32 = W256 from rfl, Nat.mul_comm]; exact this] at this
  unfold mulN; exact this.symm
theorem run_arrayAt {P : Program} {t e : TypeId} {n : Nat} (ht : P.underlying t = some (.array n e)) (a : Option Addr) (len c : Nat) (h : n ≤ len) (w : World) : (Instr.arrayAt t (.slice a len c)).run P w = .ok (.pointer a) w := by
  unfold Instr.arrayAt
  simp only [Sem.run_bind, run_underlying ht, Result.andThen_ok]
  rw [if_neg (by omega)]
  rfl
end Go.Proofs.Ytfedjbodcebdnaa
