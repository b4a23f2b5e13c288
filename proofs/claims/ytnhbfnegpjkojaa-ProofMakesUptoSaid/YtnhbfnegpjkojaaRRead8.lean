/- root.Read. -/
import Derived.Test.YtnhbfnegpjkojaaRRead7
set_option linter.unusedSimpArgs false
set_option linter.unusedVariables false
namespace Go.Proofs.Ytnhbfnegpjkojaa
open Go.RowKit
theorem unP_le (b : List UInt8) : (unP b).length ≤ 2 * b.length := by
  unfold unP
  split
  · simp
  · rw [List.length_drop, halves_len]; omega
theorem RowOf.offB {α : Type} {f : α → List Value} {size : Nat} {w w' : World} {a : Option Addr} {n c g : Nat} {l : List α} (h : RowOf f size w (.slice a n c) l) (hg : w.grownBy w' (some g)) (hne : ∀ x, (Value.slice a n c).ownBlock = some x → x ≠ g) : RowOf f size w' (.slice a n c) l := by
  cases a with
  | none =>
    obtain ⟨h0, a, c', hv, h1, h2, h3⟩ := h
    simp only [Value.slice.injEq] at hv
    obtain ⟨rfl, hn, rfl⟩ := hv
    refine ⟨h0, none, _, by rw [hn], h1, h2, .inl ?_⟩
    rcases h3 with h3 | ⟨_, _, _, he, _⟩
    · exact h3
    · simp at he
  | some p =>
    obtain ⟨b, off, s⟩ := p
    exact h.grownNe hg (hne b rfl)
theorem Texts.offB {w w' : World} {a : Option Addr} {n c g : Nat} {ps : List (Value × List UInt8)} {e : TypeId} {cs : List Value} (h : Texts w (.slice a n c) ps) (hz : Blk e w g cs) (hno : ∀ u ∈ cs, ∀ k, u ≠ .int .u8 k) (hg : w.grownBy w' (some g)) (hne : ∀ x, (Value.slice a n c).ownBlock = some x → x ≠ g) : Texts w' (.slice a n c) ps :=
  ⟨RowOf.offB h.1 hg hne, fun p hp => Bytes.off_v (h.2 p hp) hz hno hg⟩
theorem kid_le {ts : List (List UInt8)} {t : List UInt8} (h : t ∈ ts) : t.length ≤ (encP (.lst (ts.map .txt))).length := by
  have h1 := txt_le t
  have h2 := encPL_mem (List.mem_map_of_mem (f := Pit.txt) h)
  rw [encP, List.length_append]; omega
theorem getD_le {ts : List (List UInt8)} {N : Nat} (h : ∀ t ∈ ts, t.length ≤ N) (i : Nat) : (ts[i]?.getD []).length ≤ N := by
  cases hi : ts[i]? with
  | none => simp
  | some t => exact h t (List.mem_of_getElem? hi)
/-- a shape that is read is no longer than its bytes -/
theorem shp_le {p : Pit} {s : Shq} (h : shpP p = some s) (hb : (encP p).length ≤ 1048576) : s.2.1.length ≤ 4194304 ∧ s.2.2.1.length ≤ 1048576 ∧ s.2.2.2.length ≤ 1048576 ∧ ∀ t ∈ s.2.2.2, t.length ≤ 1048576 := by
  cases p with
  | txt t =>
    simp only [shpP] at h
    split at h
    · simp only [Option.some.injEq] at h; subst h; simp
    · simp at h
  | lst ks =>
    simp only [shpP] at h
    cases ha : allT ks with
    | none => rw [ha] at h; simp at h
    | some ts =>
      rw [ha] at h
      dsimp only at h
      have e := allT_some ha
      subst e
      have hall : ∀ t ∈ ts, t.length ≤ 1048576 := fun t ht => Nat.le_trans (kid_le ht) hb
      have hlen : ts.length ≤ 1048576 := by
        have h1 := encPL_len (ts.map Pit.txt)
        rw [List.length_map] at h1
        rw [encP, List.length_append] at hb; omega
      have h0 := getD_le hall 0
      have h1 := getD_le hall 1
      have h16 := getD_le hall 16
      have hu := unP_le (ts[0]?.getD [])
      split at h
      · simp only [Option.some.injEq] at h
        subst h
        exact ⟨by simp, h16, by rw [List.length_take]; show min 16 ts.length ≤ 1048576; omega, fun t ht => hall t (List.mem_of_mem_take ht)⟩
      · split at h
        · split at h
          · split at h
            · simp only [Option.some.injEq] at h
              subst h
              exact ⟨by show (unP (ts[0]?.getD [])).length ≤ _; omega, h1, by simp, by simp⟩
            · simp only [Option.some.injEq] at h
              subst h
              exact ⟨by show (unP (ts[0]?.getD [])).length ≤ _; omega, by simp, by rw [List.length_drop]; show ts.length - 1 ≤ 1048576; omega, fun t ht => hall t (List.mem_of_mem_drop ht)⟩
          · simp at h
        · simp at h
/-- what reading answers -/
def RdPost (o : Option Shq) (w : World) (e : Ending) (w' : World) : Prop :=
  Below w.heap.size w w' ∧ match o with
  | none => e = .returned (.tuple #[.agg #[.int .i64 0, .slice none 0 0, .slice none 0 0, .slice none 0 0], .int .i64 1])
  | some s => ∃ (pa : Option Addr) (pc : Nat) (va : Option Addr) (vc : Nat) (ka : Option Addr) (kc : Nat) (ps : List (Value × List UInt8)), e = .returned (.tuple #[.agg #[.int .i64 s.1, .slice pa s.2.1.length pc, .slice va s.2.2.1.length vc, .slice ka s.2.2.2.length kc], .int .i64 0]) ∧
      Bytes w' (.slice pa s.2.1.length pc) s.2.1 ∧ Bytes w' (.slice va s.2.2.1.length vc) s.2.2.1 ∧ Texts w' (.slice ka s.2.2.2.length kc) ps ∧ ps.map (·.2) = s.2.2.2
end Go.Proofs.Ytnhbfnegpjkojaa
