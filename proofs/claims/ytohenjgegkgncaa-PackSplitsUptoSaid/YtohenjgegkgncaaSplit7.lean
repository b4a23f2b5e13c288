/- (*reader).item: what lies there while a list is read. -/
import Derived.Test.YtohenjgegkgncaaSplit6
set_option linter.unusedSimpArgs false
set_option linter.unusedVariables false
namespace Go.Proofs.Ytohenjgegkgncaa
open Go.RowKit
/-- any world -/
def Any (_ : World) : Prop := True
/-- A region by what is known behind it. -/
structure LsW (w : World) (v0 : Value) (b0 : List UInt8) (g gi g6 : Nat) (a4 : Option Addr) (L4 c4 : Nat) (rest : List UInt8) (a5 : Option Addr) (L5 c5 : Nat) (rem : List UInt8) (kv : Value) (ks : List Itm) (u : World) : Prop where
  hR : Rd w v0 b0 g u a4 L4 c4 rest
  hI : Blk 113 u gi [.slice a5 L5 c5]
  hs : SubB v0 b0 (.slice a5 L5 c5) rem
  hl : rem.length = L5
  hm : Blk 25 u g6 [.bool true, .slice none 0 0, kv]
  hz : Blk 25 u w.heap.size [.bool false, .slice none 0 0, .slice none 0 0]
  hO : OwnOf icells 3 25 u (g6 + 1) kv ks
  hF : ∀ k ∈ ks, Fp (fun x => g6 + 1 ≤ x ∧ kv.ownBlock ≠ some x) u k ∧ BareI k
  h1 : w.heap.size < gi
  h2 : gi < g6
  hg : g < w.heap.size
section
variable {w : World} {v0 : Value} {b0 : List UInt8} {g gi g6 : Nat} {a4 : Option Addr} {L4 c4 : Nat} {rest : List UInt8} {a5 : Option Addr} {L5 c5 : Nat} {rem : List UInt8} {kv : Value} {ks : List Itm} {u : World}
theorem LsW.kept {u' : World} (h : LsW w v0 b0 g gi g6 a4 L4 c4 rest a5 L5 c5 rem kv ks u) (hb : Below u.heap.size u u') : LsW w v0 b0 g gi g6 a4 L4 c4 rest a5 L5 c5 rem kv ks u' :=
  ⟨h.hR.kept hb, h.hI.kept hb, h.hs, h.hl, h.hm.kept hb, h.hz.kept hb, h.hO.kept hb, fun k hk => ⟨(h.hF k hk).1.to hb.size (fun x hx hl => ⟨hb.block x hl, hx⟩), (h.hF k hk).2⟩, h.h1, h.h2, h.hg⟩
/-- an item was read -/
theorem LsW.read {u' : World} {a' : Option Addr} {L' c' : Nat} {rem' : List UInt8} (h : LsW w v0 b0 g gi g6 a4 L4 c4 rest a5 L5 c5 rem kv ks u) (hg : u.grownBy u' (some gi)) (hI : Blk 113 u' gi [.slice a' L' c']) (hs : SubB (.slice a5 L5 c5) rem (.slice a' L' c') rem') (hl : rem'.length = L') :
    LsW w v0 b0 g gi g6 a4 L4 c4 rest a' L' c' rem' kv ks u' := by
  have q1 := h.h1
  have q2 := h.h2
  have q3 := h.hg
  refine ⟨h.hR.fresh hg (fun x hx => by cases hx; omega) h.hg, hI, h.hs.trans hs, hl, h.hm.grown hg (by simp; omega), h.hz.grown hg (by simp; omega), h.hO.grown hg (fun k hk e => by cases hk; have := h.hO.lt _ e; omega), fun k hk => ⟨(h.hF k hk).1.to hg.size (fun x hx hlt => ⟨hg.block x hlt (by simp; omega), hx⟩), (h.hF k hk).2⟩, h.h1, h.h2, h.hg⟩
theorem own_lt {α : Type} {f : α → List Value} {size : Nat} {e : TypeId} {w : World} {B : Nat} {v : Value} {l : List α} (h : OwnOf f size e w B v l) {k : Nat} (hk : v.ownBlock = some k) : k < w.heap.size := (World.ownsRow.lt h k hk).2
/-- .. and laid behind the others -/
theorem LsW.grew {u' : World} {kv' : Value} {it : Itm} (h : LsW w v0 b0 g gi g6 a4 L4 c4 rest a5 L5 c5 rem kv ks u) (hit : Fp (fun x => g6 + 1 ≤ x ∧ kv.ownBlock ≠ some x) u it) (hbare : BareI it) (hg : u.grownBy u' kv.ownBlock) (hO : OwnOf icells 3 25 u' (g6 + 1) kv' (ks ++ [it]))
    (hp : ∀ k, kv'.ownBlock = some k → kv.ownBlock = some k ∨ u.heap.size ≤ k) : LsW w v0 b0 g gi g6 a4 L4 c4 rest a5 L5 c5 rem kv' (ks ++ [it]) (u'.setCell ⟨g6, 2, none⟩ kv') := by
  have q1 := h.h1
  have q2 := h.h2
  have q3 := h.hg
  have hne : ∀ b, b ≤ g6 → kv.ownBlock ≠ some b := fun b hb e => by have := h.hO.lt b e; omega
  have hst : u'.grownBy (u'.setCell ⟨g6, 2, none⟩ kv') (some g6) := grown_cell 2 kv'
  have R1 := h.hR.fresh hg (fun x hx => by have := h.hO.lt x hx; omega) h.hg
  have R2 := R1.fresh hst (fun x hx => by cases hx; omega) h.hg
  have hall : ∀ k, Fp (fun x => g6 + 1 ≤ x ∧ kv.ownBlock ≠ some x) u k → Fp (fun x => g6 + 1 ≤ x ∧ kv'.ownBlock ≠ some x) (u'.setCell ⟨g6, 2, none⟩ kv') k := by
    intro k hk
    refine hk.to (Nat.le_trans hg.size hst.size) (fun x hx hlt => ⟨?_, hx.1, fun e => ?_⟩)
    · rw [hst.block x (Nat.lt_of_lt_of_le hlt hg.size) (by simp; omega), hg.block x hlt (fun e => hx.2 e.symm)]
    · rcases hp x e with h1 | h1
      · exact hx.2 h1
      · omega
  refine ⟨R2, (h.hI.grown hg (hne _ (by omega))).other _ (by simp; omega) _, h.hs, h.hl, (h.hm.grown hg (hne _ (Nat.le_refl _))).set 2 kv', (h.hz.grown hg (hne _ (by omega))).other _ (by simp; omega) _, hO.grown hst (fun k hk e => by cases hk; have := hO.lt _ e; omega), fun k hk => ?_, h.h1, h.h2, h.hg⟩
  rcases List.mem_append.1 hk with hk | hk
  · exact ⟨hall k (h.hF k hk).1, (h.hF k hk).2⟩
  · rw [List.mem_singleton] at hk; subst hk; exact ⟨hall k hit, hbare⟩
/-- an item made anew lies apart -/
theorem LsW.apart {u' : World} {it : Itm} (h : LsW w v0 b0 g gi g6 a4 L4 c4 rest a5 L5 c5 rem kv ks u) (hit : Fp (fun x => u.heap.size ≤ x) u' it) : Fp (fun x => g6 + 1 ≤ x ∧ kv.ownBlock ≠ some x) u' it := by
  have hlt := h.hm.lt
  exact hit.to (Nat.le_refl _) (fun x hx _ => ⟨rfl, by omega, fun e => by have := own_lt h.hO e; omega⟩)
end
end Go.Proofs.Ytohenjgegkgncaa
