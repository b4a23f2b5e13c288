/- The order of worlds under which rows of one's own grow in place. No program in sight. -/
import Derived.Test.YtgmdbleeagfhpaaTurn2
import Derived.ArgAppend
import Derived.Deep.Onto
set_option linter.unusedSimpArgs false
set_option linter.unusedVariables false
namespace Go.Proofs.Ytgmdbleeagfhpaa
open Go.RowKit
/-- What may become of block k, where its row may become xs. -/
def turnedTo (xs : List Value) (o o' : Option Obj) : Prop := ∃ cur cur' e, o = some (.cells cur e (0, 0)) ∧ o' = some (.cells cur' e (0, 0)) ∧ cur'.size = cur.size ∧ ∀ (j : Nat) (u : Value), xs[j]? = some u → (cur'[j]? = cur[j]? ∨ cur'[j]? = some u)
def rowsLe (S : Nat → Option (List Value)) : Turn.Le where
  r w w' := w'.os = w.os ∧ w'.tape = w.tape ∧ w'.output = w.output ∧ w.heap.size ≤ w'.heap.size ∧ ∀ k, k < w.heap.size → w'.heap[k]? = w.heap[k]? ∨ ∃ xs, S k = some xs ∧ turnedTo xs w.heap[k]? w'.heap[k]?
  refl w := ⟨rfl, rfl, rfl, Nat.le_refl _, fun _ _ => .inl rfl⟩
  trans := by
    rintro a b c ⟨a1, a2, a3, a4, a5⟩ ⟨b1, b2, b3, b4, b5⟩
    refine ⟨b1.trans a1, b2.trans a2, b3.trans a3, Nat.le_trans a4 b4, fun k hk => ?_⟩
    rcases a5 k hk with h1 | ⟨xs, hs, h1⟩
    · rcases b5 k (Nat.lt_of_lt_of_le hk a4) with h2 | ⟨ys, hs2, h2⟩
      · exact .inl (h2.trans h1)
      · exact .inr ⟨ys, hs2, by rw [← h1]; exact h2⟩
    · rcases b5 k (Nat.lt_of_lt_of_le hk a4) with h2 | ⟨ys, hs2, h2⟩
      · exact .inr ⟨xs, hs, by rw [h2]; exact h1⟩
      · rw [hs] at hs2
        obtain rfl : xs = ys := by simpa using hs2
        obtain ⟨cur, cur', e, e1, e2, e3, e4⟩ := h1
        obtain ⟨cur1, cur2, e', f1, f2, f3, f4⟩ := h2
        rw [e2] at f1
        simp only [Option.some.injEq, Obj.cells.injEq, and_true] at f1
        obtain ⟨rfl, rfl⟩ := f1
        refine .inr ⟨xs, hs, cur, cur2, e, e1, f2, f3.trans e3, fun j u hu => ?_⟩
        rcases f4 j u hu with h | h
        · rw [h]; exact e4 j u hu
        · exact .inr h
  size h := h.2.2.2.1
variable {S : Nat → Option (List Value)}
theorem rowsLe.of_grown {w w' : World} (h : w.grownBy w' none) : (rowsLe S).r w w' := ⟨h.os, h.tape, h.output, h.size, fun k hk => .inl (h.block k hk (by simp))⟩
theorem rowsLe.of_below {w w' : World} (h : Below w.heap.size w w') : (rowsLe S).r w w' := ⟨h.os, h.tape, h.output, h.size, fun k hk => .inl (h.block k hk)⟩
theorem rowsLe.cell {w w' : World} (h : (rowsLe S).r w w') {p : Addr} {u : Value} (hp : w.cell? p = some u) (hs : S p.block = none) : w'.cell? p = some u := by
  have hlt := World.block_lt_of_cell? w _ hp
  rcases h.2.2.2.2 _ hlt with h1 | ⟨xs, h2, _⟩
  · rw [World.cell?_of_block h1]; exact hp
  · rw [hs] at h2; cases h2
theorem rowsLe.row {α : Type} {f : α → List Value} {size : Nat} {w w' : World} (h : (rowsLe S).r w w') {g n c : Nat} {l : List α} (hr : RowOf f size w (.slice (some ⟨g, 0, none⟩) n c) l) (hs : S g = none) : RowOf f size w' (.slice (some ⟨g, 0, none⟩) n c) l := by
  obtain ⟨h0, a, c', hv, h1, h2, h3⟩ := hr
  refine ⟨h0, a, c', hv, h1, h2, h3.imp_right fun ⟨b, off, s, e, hsn, h3⟩ => ⟨b, off, s, e, hsn, fun j u hu => ?_⟩⟩
  simp only [Value.slice.injEq] at hv
  have hb : b = g := by
    have := hv.1
    rw [e] at this
    simp only [Option.some.injEq, Addr.mk.injEq] at this
    exact this.1.symm
  subst hb
  exact rowsLe.cell h (h3 j u hu) hs
section
variable {α : Type} {f : α → List Value} {c1 : α → Value}
/-- A row of one's own, known up to where it may grow. -/
theorem rowsLe.own (hf : One f c1) {e : TypeId} {w w' : World} {B : Nat} {v : Value} {l : List α} (hr : (rowsLe S).r w w') (h : OwnOf f 1 e w B v l)
    (hs : ∀ (g : Nat), v.ownBlock = some g → ∀ xs, S g = some xs → ∀ (j : Nat) (u : Value), (l.map c1)[j]? = some u → xs[j]? = some u) : OwnOf f 1 e w' B v l := by
  obtain ⟨h1, h2⟩ := h
  refine ⟨h1, ?_⟩
  rcases h2 with h2 | ⟨g, cap, cur, h2, h3, h4, h5, h6, h7, h8⟩
  · exact .inl h2
  · have hlt : g < w.heap.size := (Array.getElem?_eq_some_iff.1 h4).1
    rcases hr.2.2.2.2 g hlt with k1 | ⟨xs, hxs, cur1, cur2, e', k1, k2, k3, k4⟩
    · exact .inr ⟨g, cap, cur, h2, h3, by rw [k1]; exact h4, h5, h6, h7, h8⟩
    · rw [h4] at k1
      simp only [Option.some.injEq, Obj.cells.injEq, and_true] at k1
      obtain ⟨rfl, rfl⟩ := k1
      refine .inr ⟨g, cap, cur2, h2, h3, k2, h5, h6, by rw [k3]; exact h7, ?_⟩
      rw [← h8]
      have h9 := h8
      rw [hf.map] at h9
      apply List.ext_getElem?
      intro j
      rw [List.getElem?_take, List.getElem?_take]
      split
      · rename_i hj
        have hj' : j < l.length := by omega
        have hcur : cur.toList[j]? = (l.map c1)[j]? := by rw [← h9, List.getElem?_take, if_pos hj]
        have hu : (l.map c1)[j]? = some (c1 l[j]) := by simp [hj']
        have hx := hs g (by rw [h2]; rfl) xs hxs j _ hu
        rcases k4 j _ hx with h | h
        · simpa using h
        · rw [Array.getElem?_toList, h, hcur, hu]
      · rfl
/-- 'append(own, x)' in this order of worlds: in place or not. -/
theorem run_append_rows {P : Program} {t ty e : TypeId} {z : Value} {bytes : Nat} (el : El P t e z 1 bytes f) (hf : One f c1) {w : World} {B : Nat} {v : Value} {l : List α} {x : α} (hown : OwnOf f 1 e w B v l) (hB : B ≤ w.heap.size)
    {u : Value} (hrow : RowOf f 1 w u [x]) (hS : ∀ g, v.ownBlock = some g → S g = some ((l ++ [x]).map c1)) (hbytes : (l.length + 1) * bytes ≤ 140737488355328) (h63 : l.length + 1 ≤ maxLen) :
    ∃ v' w', (Builtin.append_ #[t, t] ty #[v, u]).run P w = .ok v' w' ∧ OwnOf f 1 e w' B v' (l ++ [x]) ∧ (rowsLe S).r w w' ∧ (∀ g, Turn.blkOf v' = some g → g < w'.heap.size ∧ (w.heap.size ≤ g ∨ v.ownBlock = some g)) := by
  obtain ⟨i, hi, hz, hsi, hby⟩ := el.info
  obtain ⟨_, ad, c, rfl, _, _, h3⟩ := hrow
  have h3 := h3.resolve_left (by rintro ⟨_, h, _⟩; simp at h)
  obtain ⟨b, off, sp, rfl, hsp, hc⟩ := h3
  obtain rfl : sp = none := hsp.resolve_right (by simp)
  have hnews : ∀ j y, [c1 x][j]? = some y → w.cell? ((⟨b, off, none⟩ : Addr).add j) = some y := by
    intro j y hj
    have hadd : (⟨b, off, none⟩ : Addr).add j = ⟨b, off + j, none⟩ := by unfold Addr.add; split <;> simp_all
    rw [hadd]
    apply hc j y
    rw [hf.map]; exact hj
  have h1c : ∀ y ∈ [c1 x], y.oneCell' = true := by
    intro y hy
    have := el.h1 x y (by rw [hf x]; exact hy)
    exact this
  have newOwn : ∀ (v' : Value) (w' : World) (n : Nat) (xs : List Value), w'.ownsRow w.heap.size e 1 v' n xs → ∀ g, Turn.blkOf v' = some g → g < w'.heap.size ∧ (w.heap.size ≤ g ∨ v.ownBlock = some g) := by
    intro v' w' n xs h g hg
    rcases h.2 with ⟨rfl, _⟩ | ⟨g', cap, cur, rfl, k1, k2, _⟩
    · simp [Turn.blkOf] at hg
    · simp only [Turn.blkOf, Option.some.injEq] at hg
      subst hg
      exact ⟨(Array.getElem?_eq_some_iff.1 k2).1, .inl k1⟩
  have hlen : (l ++ [x]).length = l.length + 1 := by simp
  obtain ⟨h1, h2⟩ := hown
  rcases h2 with ⟨h2, h0⟩ | ⟨g, cap, cur, h2, h3, h4, h5, h6, h7, h8⟩
  · obtain rfl : l = [] := List.eq_nil_of_length_eq_zero h0
    subst h2
    obtain ⟨v', w', hrun, r1, r2, _⟩ := run_append_own (P := P) w w.heap.size t ty e i z 1 bytes el.ht hi hz hsi hby el.hzs el.hsz (.slice none 0 0) 0 [] (World.ownsRow_nil w _ e 1) ⟨b, off, none⟩ 1 c [c1 x] (by simp) hnews h1c (by simpa using h63) (by simpa using hbytes) (Nat.le_refl _)
    refine ⟨v', w', hrun, ?_, rowsLe.of_grown r2, newOwn v' w' _ _ r1⟩
    unfold OwnOf
    rw [hf.map]
    exact World.ownsRow.mono r1 hB
  · subst h2
    rw [Nat.mul_one] at h7 h8
    rw [hf.map] at h8
    by_cases hroom : l.length + 1 ≤ cap
    · have hrun := run_append_room (P := P) w t ty e i el.ht hi g l.length cap cur h4 ⟨b, off, none⟩ 1 c [c1 x] (by rw [hsi]; rfl) hnews h1c hroom (by rw [hsi]; simp; omega)
      rw [hsi, Nat.mul_one] at hrun
      obtain ⟨new, hnew⟩ : ∃ new, new = (cur.toList.take l.length ++ [c1 x] ++ cur.toList.drop (l.length + [c1 x].length)) := ⟨_, rfl⟩
      rw [← hnew] at hrun
      have hcl : cur.toList.length = cap := by rw [Array.length_toList]; exact h7
      have hnl : new.length = cap := by rw [hnew]; simp; omega
      have htake : new.take (l.length + 1) = (l ++ [x]).map c1 := by
        rw [hnew, List.take_append_of_le_length (by simp; omega), List.take_of_length_le (by simp; omega), h8]; simp
      have hheap : (w.setRow g new.toArray).heap[g]? = some (.cells new.toArray e (0, 0)) := setRow_heap w g _ _ e _ h4
      refine ⟨_, _, hrun, ?_, ⟨rfl, rfl, rfl, by simp, fun k hk => ?_⟩, fun k hk => ?_⟩
      · have := OwnOf.ofBlk (B := B) (n := l.length + 1) (c := cap) (l := l ++ [x]) hf (w := w.setRow g new.toArray) (cs := new) hheap hnl hroom h3 htake hlen.symm h6
        exact this
      · by_cases hkg : k = g
        · subst hkg
          refine .inr ⟨_, hS k rfl, cur, new.toArray, e, h4, hheap, by simp; omega, fun j y hj => ?_⟩
          rw [← htake, List.getElem?_take] at hj
          split at hj
          · right; simpa using hj
          · simp at hj
        · exact .inl (setRow_other w g k _ (fun e => hkg e))
      · simp only [Turn.blkOf, Option.some.injEq] at hk
        subst hk
        exact ⟨by simp; exact (Array.getElem?_eq_some_iff.1 h4).1, .inr rfl⟩
    · obtain ⟨v', w', hrun, r1, r2⟩ := run_append_arg_grows (P := P) w t ty e i z 1 bytes el.ht hi hz hsi hby el.hzs el.hsz ⟨g, 0, none⟩ l.length cap (l.map c1) (by simp) (fun j y hj => by
        have hadd : (⟨g, 0, none⟩ : Addr).add j = ⟨g, 0 + j, none⟩ := by unfold Addr.add; split <;> simp_all
        rw [hadd, Nat.zero_add, cell_of_row w g j _ e (0, 0) h4]
        rw [← h8, List.getElem?_take] at hj
        split at hj
        · simpa using hj
        · cases hj) ⟨b, off, none⟩ 1 c [c1 x] (by simp) hnews (by omega) h63 hbytes
      refine ⟨v', w', hrun, ?_, rowsLe.of_grown r2, newOwn v' w' _ _ r1⟩
      unfold OwnOf
      rw [hf.map, hlen, List.map_append]
      exact World.ownsRow.mono r1 hB
end
end Go.Proofs.Ytgmdbleeagfhpaa
