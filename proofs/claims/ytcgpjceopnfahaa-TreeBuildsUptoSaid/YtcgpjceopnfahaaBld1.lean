/- Building a tree of pairs: plain Lean, and pairs in a world. -/
import Derived.Test.YtcgpjceopnfahaaPut20
import Derived.Test.YtcgpjceopnfahaaPut24
import Derived.Test.YtcgpjceopnfahaaPut17
set_option linter.unusedSimpArgs false
set_option linter.unusedVariables false
namespace Go.Proofs.Ytcgpjceopnfahaa
open Go.RowKit
/-- a pair: its key and its value, each with the slice that it lies in -/
structure Kvp where
  kv : Value
  k : List UInt8
  vv : Value
  v : List UInt8
def kvc (p : Kvp) : List Value := [p.kv, p.vv]
theorem kvc_len (p : Kvp) : (kvc p).length = 2 := rfl
theorem aggPair : Agg Try.prog 62 2 := ⟨_, Try.underlying62, rfl, by kernel_rfl⟩
def IsKv (w : World) (p : Kvp) : Prop := Bytes w p.kv p.k ∧ Bytes w p.vv p.v
theorem IsKv.kept {w w' : World} {p : Kvp} (h : IsKv w p) (hb : Below w.heap.size w w') : IsKv w' p := ⟨h.1.below hb, h.2.below hb⟩
def fineK (p : Kvp) : Prop := p.k.length ≤ 32 ∧ p.v.length ≤ 1024
def trB (ps : List Kvp) : Pn := ps.foldl (fun T p => putQ T (halvesL p.k) p.v) nP
def lsB (ps : List Kvp) : List Rt := ps.foldl (fun l p => rputP l (halvesL p.k) p.v) []
def bldE : List Kvp → Int
  | [] => 0
  | p :: ps => if 32 < p.k.length then 3 else if 1024 < p.v.length then 2 else bldE ps
def bldP (ps : List Kvp) : Pn × Int := if bldE ps = 0 then (trB ps, 0) else (nP, bldE ps)
theorem trB_step (ps : List Kvp) (i : Nat) (hi : i < ps.length) : trB (ps.take (i + 1)) = putQ (trB (ps.take i)) (halvesL ps[i].k) ps[i].v := by
  unfold trB
  rw [List.take_succ_eq_append_getElem hi, List.foldl_append]; rfl
theorem lsB_step (ps : List Kvp) (i : Nat) (hi : i < ps.length) : lsB (ps.take (i + 1)) = rputP (lsB (ps.take i)) (halvesL ps[i].k) ps[i].v := by
  unfold lsB
  rw [List.take_succ_eq_append_getElem hi, List.foldl_append]; rfl
theorem bldE_skip : ∀ (ps : List Kvp) (i : Nat), (∀ p ∈ ps.take i, fineK p) → bldE ps = bldE (ps.drop i)
  | ps, 0, _ => rfl
  | [], i + 1, _ => rfl
  | p :: ps, i + 1, h => by
    have h1 := h p List.mem_cons_self
    have h2 := bldE_skip ps i (fun q hq => h q (List.mem_cons_of_mem _ hq))
    unfold fineK at h1
    show (if 32 < p.k.length then (3 : Int) else if 1024 < p.v.length then 2 else bldE ps) = bldE (ps.drop i)
    rw [if_neg (by omega), if_neg (by omega), h2]
theorem bldE_at (ps : List Kvp) (i : Nat) (hi : i < ps.length) (h : ∀ p ∈ ps.take i, fineK p) : bldE ps = if 32 < ps[i].k.length then 3 else if 1024 < ps[i].v.length then 2 else bldE (ps.drop (i + 1)) := by
  rw [bldE_skip ps i h, List.drop_eq_getElem_cons hi]; rfl
theorem bldE_all (ps : List Kvp) (h : ∀ p ∈ ps, fineK p) : bldE ps = 0 := by
  rw [bldE_skip ps ps.length (by rw [List.take_length]; exact h), List.drop_length]; rfl
theorem build_from : ∀ (ps : List Kvp) (l : List Rt) (T : Pn), Grows l T → Ord l → (∀ r ∈ l, r.1.length ≤ 64 ∧ r.2.length ≤ 1024) → (∀ p ∈ ps, fineK p) →
    Grows (ps.foldl (fun l p => rputP l (halvesL p.k) p.v) l) (ps.foldl (fun T p => putQ T (halvesL p.k) p.v) T) ∧ Ord (ps.foldl (fun l p => rputP l (halvesL p.k) p.v) l) ∧ (∀ r ∈ ps.foldl (fun l p => rputP l (halvesL p.k) p.v) l, r.1.length ≤ 64 ∧ r.2.length ≤ 1024) ∧ (ps.foldl (fun l p => rputP l (halvesL p.k) p.v) l).length ≤ l.length + ps.length
  | [], l, T, h1, h2, h3, _ => ⟨h1, h2, h3, by simp⟩
  | p :: ps, l, T, h1, h2, h3, h4 => by
    have hp := h4 p List.mem_cons_self
    have hhl := halvesL_len p.k
    have h5 : (rputP l (halvesL p.k) p.v).length ≤ l.length + 1 := by
      unfold rputP
      split
      · exact Nat.le_succ_of_le (List.length_filter_le _ _)
      · rw [(ins_perm _ _).length_eq, List.length_cons]
        exact Nat.succ_le_succ (List.length_filter_le _ _)
    have := build_from ps (rputP l (halvesL p.k) p.v) (putQ T (halvesL p.k) p.v) (put_grows h1 _ _ (halves_small _)) (ord_rput h2 _ _) (fun r hr => by
      rcases rput_mem hr with hr | rfl
      · exact h3 r hr
      · unfold fineK at hp
        exact ⟨by show (halvesL p.k).length ≤ 64; omega, hp.2⟩) (fun q hq => h4 q (List.mem_cons_of_mem _ hq))
    refine ⟨this.1, this.2.1, this.2.2.1, ?_⟩
    have h6 := this.2.2.2
    simp only [List.foldl_cons, List.length_cons]
    omega
theorem build_grows (ps : List Kvp) (h : ∀ p ∈ ps, fineK p) : Grows (lsB ps) (trB ps) ∧ Ord (lsB ps) ∧ (∀ r ∈ lsB ps, r.1.length ≤ 64 ∧ r.2.length ≤ 1024) ∧ (lsB ps).length ≤ ps.length := by
  have := build_from ps [] nP .none List.Pairwise.nil (fun r hr => by simp at hr) h
  refine ⟨this.1, this.2.1, this.2.2.1, ?_⟩
  have h6 := this.2.2.2
  simpa [lsB] using h6
theorem bld_blk (ps : List Kvp) (hn : ps.length ≤ 20000000) : blkP (bldP ps).1 ≤ 100000000000 := by
  unfold bldP
  split
  · rename_i h0
    have hf : ∀ (ps : List Kvp), bldE ps = 0 → ∀ p ∈ ps, fineK p := by
      intro ps
      induction ps with
      | nil => intro _ p hp; simp at hp
      | cons q ps ih =>
        intro h p hp
        unfold bldE at h
        split at h
        · omega
        · split at h
          · omega
          · rcases List.mem_cons.1 hp with rfl | hp
            · exact ⟨by omega, by omega⟩
            · exact ih h p hp
    obtain ⟨h1, _, h3, h4⟩ := build_grows ps (hf ps h0)
    have h5 := grows_blk h1
    have h6 := wtR_le h3
    show blkP (trB ps) ≤ _
    omega
  · show blkP nP ≤ _
    decide
end Go.Proofs.Ytcgpjceopnfahaa
