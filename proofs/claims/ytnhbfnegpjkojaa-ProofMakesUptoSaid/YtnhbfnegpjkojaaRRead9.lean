/- The reference's HRead. -/
import Derived.Test.YtnhbfnegpjkojaaRRead8
import Derived.Test.YtnhbfnegpjkojaaRootB
import Derived.Test.YtnhbfnegpjkojaaRootShp
set_option linter.unusedSimpArgs false
set_option linter.unusedVariables false
namespace Go.Proofs.Ytnhbfnegpjkojaa
open Go.RowKit
def toQ (s : Shp) : Shq := (s.kd, s.p, s.v, s.ps.map (·.2))
def zShp : Shp := ⟨0, .slice none 0 0, [], .slice none 0 0, [], .slice none 0 0, []⟩
theorem zShp_is (w : World) : IsShp w zShp := ⟨RowOf.nil b8 1 w, RowOf.nil b8 1 w, ⟨RowOf.nil tcell 1 w, by simp [zShp]⟩⟩
def hitQ (b : List UInt8) (s : Shq) : Bool := okQ s && decide (bQ s = b)
theorem find_at {b : List UInt8} : ∀ {l : List Shq} {k : Nat} {s : Shq}, (∀ (j : Nat) (x : Shq), j < k → l[j]? = some x → hitQ b x = false) → l[k]? = some s → hitQ b s = true → l.find? (hitQ b) = some s
  | [], k, s, _, h, _ => by simp at h
  | x :: l, 0, s, _, h, hs => by
    simp only [List.getElem?_cons_zero, Option.some.injEq] at h
    subst h
    rw [List.find?_cons_of_pos hs]
  | x :: l, k + 1, s, hj, h, hs => by
    rw [List.find?_cons_of_neg (by rw [hj 0 x (by omega) rfl]; simp)]
    exact find_at (k := k) (fun j y hjk hy => hj (j + 1) y (by omega) (by simpa using hy)) (by simpa using h) hs
theorem find_no {b : List UInt8} {l : List Shq} (h : ∀ (j : Nat) (x : Shq), l[j]? = some x → hitQ b x = false) : l.find? (hitQ b) = none := by
  rw [List.find?_eq_none]
  intro x hx
  obtain ⟨j, hj⟩ := List.getElem?_of_mem hx
  rw [h j x hj]; simp
theorem hrd_find (l : List (List UInt8)) (b : List UInt8) : hrd l b = (triesL l).find? (hitQ b) := rfl
structure HrW (w : World) (g4 : Nat) (box : List Value) (u : World) : Prop where
  hb : Below w.heap.size w u
  hz : Blk 190 u w.heap.size zsh
  h4 : Blk 156 u g4 box
  hg : w.heap.size < g4
theorem HrW.kept {w u u' : World} {g4 : Nat} {box : List Value} (h : HrW w g4 box u) (hb : Below u.heap.size u u') : HrW w g4 box u' := ⟨Below.then h.hb hb, h.hz.kept hb, h.h4.kept hb, h.hg⟩
theorem HrW.grown {w u u' : World} {g4 : Nat} {box : List Value} {row : Option Nat} (h : HrW w g4 box u) (hg : u.grownBy u' row) (hr : ∀ x, row = some x → g4 < x) : HrW w g4 box u' :=
  ⟨h.hb.grown hg h.hb.size (fun x hx => by have := hr x hx; have := h.hg; omega), h.hz.grown hg (fun e => by have := hr _ e; have := h.hg; omega), h.h4.grown hg (fun e => by have := hr _ e; omega), h.hg⟩
end Go.Proofs.Ytnhbfnegpjkojaa
