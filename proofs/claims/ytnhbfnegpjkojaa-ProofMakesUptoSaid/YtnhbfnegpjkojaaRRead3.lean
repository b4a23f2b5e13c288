/- root.shape. -/
import Derived.Test.YtnhbfnegpjkojaaRRead1
import Derived.Test.YtnhbfnegpjkojaaRRead2
set_option linter.unusedSimpArgs false
set_option linter.unusedVariables false
namespace Go.Proofs.Ytnhbfnegpjkojaa
open Go.RowKit
theorem allT_lst : ∀ {ks : List Itm} {i : Nat} {k : Itm}, ks[i]? = some k → itl k = true → allT (ks.map erI) = none
  | [], i, k, h, _ => by simp at h
  | x :: ks, 0, k, h, hl => by
    simp only [List.getElem?_cons_zero, Option.some.injEq] at h
    subst h
    cases x with
    | mk l tv t kv ks' =>
      have : l = true := hl
      subst this
      rw [List.map_cons, erI_mk]; rfl
  | x :: ks, i + 1, k, h, hl => by
    simp only [List.getElem?_cons_succ] at h
    have ih := allT_lst h hl
    rw [List.map_cons]
    cases hx : erI x with
    | txt t => simp [allT, ih]
    | lst l => rfl
theorem allT_texts : ∀ {ks : List Itm}, (∀ (i : Nat) (k : Itm), ks[i]? = some k → itl k = false) → allT (ks.map erI) = some (ks.map itt)
  | [], _ => rfl
  | x :: ks, h => by
    rw [List.map_cons, erI_text (h 0 x rfl)]
    simp only [allT, allT_texts (fun i k hk => h (i + 1) k hk), Option.map_some, List.map_cons]
/-- what reading a shape out of an item answers -/
def ShPost (o : Option Shq) (w : World) (e : Ending) (w' : World) : Prop :=
  Below w.heap.size w w' ∧ match o with
  | none => ∃ (kd : Int) (pa : Option Addr) (pn pc : Nat) (va : Option Addr) (vn vc : Nat) (ka : Option Addr) (kn kc : Nat), e = .returned (.tuple #[.agg #[.int .i64 kd, .slice pa pn pc, .slice va vn vc, .slice ka kn kc], .bool false])
  | some s => ∃ (pa : Option Addr) (pc : Nat) (va : Option Addr) (vc : Nat) (ka : Option Addr) (kc : Nat) (ps : List (Value × List UInt8)), e = .returned (.tuple #[.agg #[.int .i64 s.1, .slice pa s.2.1.length pc, .slice va s.2.2.1.length vc, .slice ka s.2.2.2.length kc], .bool true]) ∧
      Bytes w' (.slice pa s.2.1.length pc) s.2.1 ∧ Bytes w' (.slice va s.2.2.1.length vc) s.2.2.1 ∧ Texts w' (.slice ka s.2.2.2.length kc) ps ∧ ps.map (·.2) = s.2.2.2 ∧ ∀ x, (Value.slice ka s.2.2.2.length kc).ownBlock = some x → w.heap.size ≤ x
def zsh : List Value := [.int .i64 0, .slice none 0 0, .slice none 0 0, .slice none 0 0]
structure ShW (w : World) (box cs : List Value) (u : World) : Prop where
  hb : Below w.heap.size w u
  hx : Blk 156 u w.heap.size box
  hz : Blk 190 u (w.heap.size + 1) cs
theorem ShW.kept {w u u' : World} {box cs : List Value} (h : ShW w box cs u) (hb : Below u.heap.size u u') : ShW w box cs u' := ⟨Below.then h.hb hb, h.hx.kept hb, h.hz.kept hb⟩
theorem ShW.start (w : World) (c0 c1 c2 : Value) : ShW w [c0, c1, c2] zsh ((w.alloc (.cells #[c0, c1, c2] 156)).alloc (.cells #[.int .i64 0, .slice none 0 0, .slice none 0 0, .slice none 0 0] 190)) := by
  refine ⟨((Below.refl _ _).alloc (Nat.le_refl _) _).alloc (by simp) _, (Blk.new w 156 [c0, c1, c2]).alloc _, ?_⟩
  have := Blk.new (w.alloc (.cells #[c0, c1, c2] 156)) 190 zsh
  simpa [zsh] using this
theorem ShW.set {w u : World} {box cs : List Value} (h : ShW w box cs u) (i : Nat) (v : Value) : ShW w box (cs.set i v) (u.setCell ⟨w.heap.size + 1, i, none⟩ v) :=
  ⟨h.hb.setCell (by show w.heap.size ≤ w.heap.size + 1; omega) _, h.hx.other _ (by simp) _, h.hz.set i v⟩
theorem ShW.bytes {w u : World} {box cs : List Value} (h : ShW w box cs u) (hno : ∀ x ∈ cs, ∀ k, x ≠ .int .u8 k) (i : Nat) (x : Value) {v : Value} {t : List UInt8} (hb : Bytes u v t) : Bytes (u.setCell ⟨w.heap.size + 1, i, none⟩ x) v t :=
  Bytes.off_v hb h.hz hno (grown_cell i x)
theorem zsh_post (w u : World) (kd : Int) (hkd : kd = 0) (hb : Below w.heap.size w u) : ShPost (some (0, [], [], [])) w (.returned (.tuple #[.agg #[.int .i64 kd, .slice none 0 0, .slice none 0 0, .slice none 0 0], .bool true])) u := by
  subst hkd
  exact ⟨hb, none, 0, none, 0, none, 0, [], rfl, RowOf.nil b8 1 u, RowOf.nil b8 1 u, ⟨RowOf.nil tcell 1 u, by simp⟩, rfl, by simp [Value.ownBlock]⟩
end Go.Proofs.Ytnhbfnegpjkojaa
