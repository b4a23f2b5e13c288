/- Routes in order: what sorting a put one gives. Plain Lean. -/
import Derived.Test.YtcgpjceopnfahaaPut2
import Derived.Lib.Bytealg
import Derived.Sort.Statements
set_option linter.unusedSimpArgs false
set_option linter.unusedVariables false
namespace Go.Proofs.Ytcgpjceopnfahaa
open Go.RowKit
theorem ltP_irr : ∀ a : List UInt8, ¬ ltP a a
  | [] => fun h => h
  | x :: a => fun h => by rcases h with h | ⟨_, h⟩; exact Nat.lt_irrefl _ h; exact ltP_irr a h
theorem ltP_tri : ∀ a b : List UInt8, ltP a b ∨ a = b ∨ ltP b a
  | [], [] => .inr (.inl rfl)
  | [], _ :: _ => .inl trivial
  | _ :: _, [] => .inr (.inr trivial)
  | x :: a, y :: b => by
    rcases Nat.lt_trichotomy x.toNat y.toNat with h | h | h
    · exact .inl (.inl h)
    · have hxy : x = y := UInt8.toNat_inj.1 h
      subst hxy
      rcases ltP_tri a b with h | h | h
      · exact .inl (.inr ⟨rfl, h⟩)
      · exact .inr (.inl (by rw [h]))
      · exact .inr (.inr (.inr ⟨rfl, h⟩))
    · exact .inr (.inr (.inl h))
theorem cmpB_lt : ∀ a b : List UInt8, Lib.compareBytes a b < 0 ↔ ltP a b
  | [], [] => by simp [Lib.compareBytes, ltP]
  | [], _ :: _ => by simp [Lib.compareBytes, ltP]
  | _ :: _, [] => by simp [Lib.compareBytes, ltP]
  | x :: a, y :: b => by
    unfold Lib.compareBytes ltP
    by_cases h1 : x < y
    · rw [if_pos h1]
      exact ⟨fun _ => .inl h1, fun _ => by omega⟩
    · rw [if_neg h1]
      have h1' : ¬ x.toNat < y.toNat := h1
      by_cases h2 : y < x
      · rw [if_pos h2]
        have h2' : y.toNat < x.toNat := h2
        constructor
        · intro h; omega
        · rintro (h | ⟨h, _⟩)
          · omega
          · subst h; omega
      · rw [if_neg h2, cmpB_lt a b]
        have h2' : ¬ y.toNat < x.toNat := h2
        constructor
        · intro h; exact .inr ⟨UInt8.toNat_inj.1 (by omega), h⟩
        · rintro (h | ⟨_, h⟩)
          · omega
          · exact h
def rtLt (x y : Rt) : Bool := decide (Lib.compareBytes x.1 y.1 < 0)
theorem rtLt_iff (x y : Rt) : rtLt x y = true ↔ ltP x.1 y.1 := by unfold rtLt; rw [decide_eq_true_iff, cmpB_lt]
theorem rtLt_not (x y : Rt) : rtLt x y = false ↔ ¬ ltP x.1 y.1 := by rw [← rtLt_iff]; simp
theorem rt_swo : Sort.SWO rtLt where
  irrefl x := (rtLt_not _ _).2 (ltP_irr _)
  trans x y z h1 h2 := (rtLt_iff _ _).2 (ltP_trans ((rtLt_iff _ _).1 h1) ((rtLt_iff _ _).1 h2))
  ntrans x y z h1 h2 := by
    rw [rtLt_not] at h1 h2 ⊢
    intro h
    rcases ltP_tri y.1 z.1 with h3 | h3 | h3
    · exact h2 h3
    · rw [← h3] at h; exact h1 h
    · exact h1 (ltP_trans h h3)
theorem ins_perm (r : Rt) : ∀ l : List Rt, (insR r l).Perm (r :: l)
  | [] => List.Perm.refl _
  | s :: l => by
    unfold insR
    split
    · exact List.Perm.refl _
    · exact ((ins_perm r l).cons s).trans (List.Perm.swap _ _ _)
theorem ins_ord {r : Rt} : ∀ {l : List Rt}, Ord l → (∀ s ∈ l, s.1 ≠ r.1) → Ord (insR r l)
  | [], _, _ => List.pairwise_singleton _ _
  | s :: l, h, hn => by
    have h' := List.pairwise_cons.1 h
    unfold insR
    split
    · rename_i hlt
      refine List.pairwise_cons.2 ⟨fun t ht => ?_, h⟩
      rcases List.mem_cons.1 ht with rfl | ht
      · exact hlt
      · exact ltP_trans hlt (h'.1 t ht)
    · rename_i hlt
      refine List.pairwise_cons.2 ⟨fun t ht => ?_, ins_ord h'.2 (fun t ht => hn t (List.mem_cons_of_mem _ ht))⟩
      rcases List.mem_cons.1 ((ins_perm r l).mem_iff.1 ht) with rfl | ht
      · rcases ltP_tri s.1 t.1 with h | h | h
        · exact h
        · exact absurd h (hn s List.mem_cons_self)
        · exact absurd h hlt
      · exact h'.1 t ht
theorem ord_rput {l : List Rt} (h : Ord l) (p v : List UInt8) : Ord (rputP l p v) := by
  unfold rputP
  have hf : Ord (l.filter (fun r => decide (r.1 ≠ p))) := h.filter _
  split
  · exact hf
  · exact ins_ord hf (fun s hs => by simpa using (List.mem_filter.1 hs).2)
/-- two orders of the same routes are one -/
theorem ord_one {l m : List Rt} (hl : Ord l) (hm : m.Pairwise fun r s => ¬ ltP s.1 r.1) (hp : m.Perm l) : m = l := by
  refine List.Perm.eq_of_pairwise (le := fun r s => ¬ ltP s.1 r.1) ?_ hm (hl.imp fun h h2 => ltP_irr _ (ltP_trans h h2)) hp
  intro a b ha hb h1 h2
  have hab : a.1 = b.1 := by
    rcases ltP_tri a.1 b.1 with h | h | h
    · exact absurd h h2
    · exact h
    · exact absurd h h1
  have ha' := hp.mem_iff.1 ha
  by_cases e : a = b
  · exact e
  · have key : ∀ (l : List Rt), Ord l → a ∈ l → b ∈ l → False := by
      intro l
      induction l with
      | nil => intro _ h; simp at h
      | cons s l ih =>
        intro h h3 h4
        have h' := List.pairwise_cons.1 h
        rcases List.mem_cons.1 h3 with e3 | e3
        · rcases List.mem_cons.1 h4 with e4 | e4
          · exact e (e3.trans e4.symm)
          · have := h'.1 b e4; rw [← e3, hab] at this; exact ltP_irr _ this
        · rcases List.mem_cons.1 h4 with e4 | e4
          · have := h'.1 a e3; rw [← e4, hab] at this; exact ltP_irr _ this
          · exact ih h'.2 e3 e4
    exact (key l hl ha' hb).elim
theorem sorted_pair {d : Array Rt} (h : Sort.SortedIn rtLt 0 d.size d) : d.toList.Pairwise fun r s => ¬ ltP s.1 r.1 := by
  rw [List.pairwise_iff_getElem]
  intro i j hi hj hij
  have := h i j (Nat.zero_le _) hij (by simpa using hj)
  rw [rtLt_not, getElem!_pos d j (by simpa using hj), getElem!_pos d i (by simpa using hi)] at this
  simpa using this
/-- what is sorted of the routes without that path, and the new one behind -/
theorem sort_rput {l : List Rt} (h : Ord l) (p v : List UInt8) {d d' : Array Rt} (hd : d.toList = l.filter (fun r => decide (r.1 ≠ p)) ++ (if v = [] then [] else [(p, v)])) (hp : Sort.PermIn 0 d.size d d') (hs : Sort.SortedIn rtLt 0 d.size d') : d'.toList = rputP l p v := by
  have hsz := hp.1
  rw [← hsz] at hs
  refine ord_one (ord_rput h p v) (sorted_pair hs) ?_
  have h1 : d'.toList.Perm d.toList := by
    have := hp.2.2
    rw [Array.extract_size, ← hsz, Array.extract_size] at this
    exact this
  refine h1.trans ?_
  rw [hd]
  unfold rputP
  split
  · rw [List.append_nil]
  · exact List.perm_append_comm.trans (ins_perm _ _).symm
end Go.Proofs.Ytcgpjceopnfahaa
