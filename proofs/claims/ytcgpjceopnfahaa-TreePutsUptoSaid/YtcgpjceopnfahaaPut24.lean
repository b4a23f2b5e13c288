/- The bulk of what grows of routes. -/
import Derived.Test.YtcgpjceopnfahaaPut3
import Derived.Test.YtcgpjceopnfahaaGrwA
set_option linter.unusedSimpArgs false
set_option linter.unusedVariables false
namespace Go.Proofs.Ytcgpjceopnfahaa
open Go.RowKit
mutual
def blkP : Pn → Nat
  | .mk _ p v ks => 1 + p.length + v.length + blkPL ks
def blkPL : List Pn → Nat
  | [] => 0
  | k :: ks => blkP k + blkPL ks
end
mutual
theorem blkP_er : ∀ t : Nd, blkP (erN t) = bulkN t
  | .mk kd pv p vv v kv ks => by simp only [erN, blkP, bulkN, blkP_erL ks]
theorem blkP_erL : ∀ ks : List Nd, blkPL (erNL ks) = bulkNL ks
  | [] => rfl
  | k :: ks => by simp only [erNL, blkPL, bulkNL, blkP_er k, blkP_erL ks]
end
mutual
theorem sameN_er : ∀ t : Nd, sameP t (erN t) = true
  | .mk kd pv p vv v kv ks => by
    have := sameN_erL ks
    simp only [erN, sameP, this]
    simp
theorem sameN_erL : ∀ ks : List Nd, sameL ks (erNL ks) = true
  | [] => rfl
  | k :: ks => by simp only [erNL, sameL, sameN_er k, sameN_erL ks]; rfl
end
/-- so much a route may take -/
def wtR : List Rt → Nat
  | [] => 0
  | r :: l => 17 + 18 * r.1.length + r.2.length + wtR l
theorem wtR_app (l m : List Rt) : wtR (l ++ m) = wtR l + wtR m := by
  induction l with
  | nil => simp [wtR]
  | cons r l ih => simp only [List.cons_append, wtR, ih]; omega
theorem wtR_pre (p : List UInt8) (l : List Rt) : wtR (pre p l) = wtR l + 18 * p.length * l.length := by
  induction l with
  | nil => simp [wtR, pre]
  | cons r l ih =>
    have : pre p (r :: l) = (p ++ r.1, r.2) :: pre p l := rfl
    rw [this]
    simp only [wtR, ih, List.length_append, List.length_cons, Nat.mul_add]
    omega
theorem wtR_cat : ∀ (ls : List (List Rt)) (ks : List Pn) (i : Nat), ls.length = ks.length → (∀ (i : Nat) (l : List Rt) (k : Pn), ls[i]? = some l → ks[i]? = some k → blkP k ≤ 1 + wtR l) → blkPL ks + 18 * (cat i ls).length ≤ ks.length + wtR (cat i ls)
  | [], [], i, _, _ => by simp [blkPL, cat, wtR]
  | [], k :: ks, i, h, _ => by simp at h
  | l :: ls, [], i, h, _ => by simp at h
  | l :: ls, k :: ks, i, h, hh => by
    have h0 := hh 0 l k rfl rfl
    have ih := wtR_cat ls ks (i + 1) (by simpa using h) (fun j l' k' h1 h2 => hh (j + 1) l' k' (by simpa using h1) (by simpa using h2))
    simp only [cat, blkPL, wtR_app, wtR_pre, List.length_append, List.length_cons, pre_len, List.length_nil]
    omega
theorem grows_blk {l : List Rt} {T : Pn} (h : Grows l T) : blkP T ≤ 1 + wtR l := by
  induction h with
  | none => simp [nP, blkP, blkPL, wtR]
  | leaf p v hv hp => simp only [blkP, blkPL, wtR]; omega
  | road p l k hp hn h hk ih =>
    have h1 : 0 < l.length := List.length_pos_iff.2 (h.ne (by omega))
    have h2 : 0 < p.length := List.length_pos_iff.2 hp
    simp only [blkP, blkPL, wtR_pre, List.length_nil]
    have h3 : 18 * p.length ≤ 18 * p.length * l.length := Nat.le_mul_of_pos_right _ h1
    omega
  | fork v ls ks hl hk h hm ih =>
    have h1 := wtR_cat ls ks 0 (by omega) ih
    have h2 := (fork_two v ls ks hl hk h hm).1
    simp only [blkP, List.length_nil]
    unfold bdP at h2 ⊢
    by_cases hv : v = []
    · subst hv
      rw [if_pos rfl, List.nil_append] at h2 ⊢
      simp only [List.length_nil]
      omega
    · rw [if_neg hv] at h2 ⊢
      simp only [List.singleton_append, wtR, List.length_nil, List.length_cons] at h2 ⊢
      omega
theorem wtR_le {l : List Rt} (h : ∀ r ∈ l, r.1.length ≤ 64 ∧ r.2.length ≤ 1024) : wtR l ≤ 2200 * l.length := by
  induction l with
  | nil => simp [wtR]
  | cons r l ih =>
    have h1 := h r List.mem_cons_self
    have h2 := ih (fun s hs => h s (List.mem_cons_of_mem _ hs))
    simp only [wtR, List.length_cons]
    omega
end Go.Proofs.Ytcgpjceopnfahaa
