/- Arrays by value, and ranges of cells: lemmas of my own with no program in sight. -/
import Derived.Test.YtohenjgegkgncaaAppT
import Derived.Test.YtohenjgegkgncaaEq
set_option linter.unusedSimpArgs false
set_option linter.unusedVariables false
namespace Go.Proofs.Ytohenjgegkgncaa
open Go.RowKit
theorem run_index_agg {P : Program} {t e : TypeId} {n : Nat} (ht : P.underlying t = some (.array n e)) (hs : (P.info? e).map (·.size) = some 1) (cs : Array Value) (k : Nat) (hk : k < n) (w : World) {v : Value} (ik : IntKind)
    (hp : (part e cs k).run P w = .ok v w) : (Instr.index t (.agg cs) (.int ik (k : Int))).run P w = .ok v w := by
  cases hq : P.info? e with
  | none => simp [hq] at hs
  | some q =>
    have hs1 : q.size = 1 := by simpa [hq] using hs
    have hsz : (sizeOf e).run P w = .ok 1 w := by simp [sizeOf, typeInfo, hq, hs1]
    unfold Instr.index
    simp only [asIntOf, Sem.run_bind, Sem.run_pure, run_underlying ht, Result.andThen_ok]
    rw [if_pos (by omega)]
    simp only [Sem.run_bind, hsz, Result.andThen_ok]
    simpa using hp
theorem run_arrayAt {P : Program} {t e : TypeId} {n : Nat} (ht : P.underlying t = some (.array n e)) (a : Option Addr) (len c : Nat) (h : n ≤ len) (w : World) : (Instr.arrayAt t (.slice a len c)).run P w = .ok (.pointer a) w := by
  unfold Instr.arrayAt
  simp only [Sem.run_bind, run_underlying ht, Result.andThen_ok]
  rw [if_neg (by omega)]
  rfl
theorem Blk.range {e : TypeId} {w : World} {g : Nat} {cs : List Value} (h : Blk e w g cs) (o n : Nat) : w.rangeAt g o ((cs.drop o).take n) := fun j v hv => by
  rw [h.cell]
  rw [List.getElem?_take] at hv
  split at hv
  · rwa [List.getElem?_drop] at hv
  · simp at hv
theorem Blk.all0 {e : TypeId} {w : World} {g : Nat} {cs : List Value} (h : Blk e w g cs) : w.rangeAt g 0 cs := fun j v hv => by rw [Nat.zero_add, h.cell]; exact hv
theorem Bytes.whole {w : World} {b off n c : Nat} {l : List UInt8} (h : Bytes w (.slice (some ⟨b, off, none⟩) n c) l) : w.rangeAt b off (l.map u8v) := by
  obtain ⟨_, _, _, hv, _, _, h3⟩ := h
  simp only [Value.slice.injEq] at hv
  obtain ⟨rfl, _, _⟩ := hv
  rcases h3 with ⟨h0, _⟩ | ⟨b', off', s, he, _, hc⟩
  · simp at h0
  · simp only [Option.some.injEq, Addr.mk.injEq] at he
    obtain ⟨rfl, rfl, _⟩ := he
    intro j u hu
    exact hc j u (by rw [flat_b8]; exact hu)
end Go.Proofs.Ytohenjgegkgncaa
