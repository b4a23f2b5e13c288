/- The reference's grown, a fork: its frame. -/
import Derived.Test.YtnhbfnegpjkojaaGrw3
set_option linter.unusedSimpArgs false
set_option linter.unusedVariables false
namespace Go.Proofs.Ytnhbfnegpjkojaa
open Go.RowKit
def nilV : Value := .slice none 0 0
def fcells (vv : Value) (R : Nat) : List Value := [.int .i64 3, .slice none 0 0, vv, .slice (some ⟨R, 0, none⟩) 16 16]
structure FkN (w : World) (R F : Nat) (vv : Value) (v : List UInt8) (kids : List Nd) (u : World) : Prop where
  hb : Below w.heap.size w u
  hz : Blk 25 u w.heap.size (ndcells zN)
  hR : Blk 25 u R (kids.flatMap ndcells)
  hF : Blk 25 u F (fcells vv R)
  hRF : R < F
  hv : TxO (R + 1) v vv u
  hk : ∀ k ∈ kids, OwnNd u (R + 1) k
  hl : kids.length = 16
  hlt : w.heap.size < R
theorem FkN.kept {w : World} {R F : Nat} {vv : Value} {v : List UInt8} {kids : List Nd} {u u' : World} (h : FkN w R F vv v kids u) (hb : Below u.heap.size u u') : FkN w R F vv v kids u' :=
  ⟨Below.then h.hb hb, h.hz.kept hb, h.hR.kept hb, h.hF.kept hb, h.hRF, ⟨h.hv.1.below hb, h.hv.2⟩, fun k hk => (h.hk k hk).kept hb, h.hl, h.hlt⟩
theorem FkN.row {w : World} {R F : Nat} {vv : Value} {v : List UInt8} {kids : List Nd} {u : World} (h : FkN w R F vv v kids u) : RowOf ndcells 4 u (.slice (some ⟨R, 0, none⟩) 16 16) kids :=
  Blk.row h.hR kids 16 16 ndcells_len h.hl (fun _ _ e => e) (Nat.le_refl _) (by unfold maxLen; omega)
theorem FkN.there {w : World} {R F : Nat} {vv : Value} {v : List UInt8} {kids : List Nd} {u : World} (h : FkN w R F vv v kids u) (i : Nat) (hi : i < 16) : u.there R (i * 4) 4 := fun j hj => by
  refine ⟨?_, h.hR.free _⟩
  rw [h.hR.cell, List.getElem?_eq_getElem (by rw [flat_nd, h.hl]; omega)]
  rfl
theorem FkN.put {w : World} {R F : Nat} {vv : Value} {v : List UInt8} {kids : List Nd} {u : World} (h : FkN w R F vv v kids u) (i : Nat) (hi : i < 16) (t : Nd) (ht : OwnNd u (R + 1) t) : FkN w R F vv v (kids.set i t) (u.setCells R (i * 4) (ndcells t)) := by
  have hg : u.grownBy (u.setCells R (i * 4) (ndcells t)) (some R) := grown_sets (ndcells t) (i * 4) ⟨rfl, rfl, rfl, Nat.le_refl _, fun _ _ _ => rfl⟩
  have hlt := h.hlt
  have hR := h.hR.sets (ndcells t) (i * 4)
  rw [sets_nd kids i (by rw [h.hl]; exact hi) t] at hR
  refine ⟨h.hb.grown hg h.hb.size (fun k e => by cases e; omega), h.hz.grown hg (fun e => by cases e; omega), hR, h.hF.grown hg (fun e => by have := h.hRF; simp at e; omega), h.hRF, ⟨h.hv.1.offV hg (fun k e => by have := h.hv.2 k e; omega), h.hv.2⟩, fun k hk => ?_, by rw [List.length_set]; exact h.hl, hlt⟩
  rcases List.mem_or_eq_of_mem_set hk with hk | rfl
  · exact (h.hk k hk).off hg (Nat.lt_succ_self _)
  · exact ht.off hg (Nat.lt_succ_self _)
theorem FkN.start {w : World} {R F : Nat} {u : World} (hb : Below w.heap.size w u) (hz : Blk 25 u w.heap.size (ndcells zN)) (hR : Blk 25 u R ((List.replicate 16 zN).flatMap ndcells)) (hF : Blk 25 u F (fcells nilV R)) (hRF : R < F) (hlt : w.heap.size < R) : FkN w R F nilV [] (List.replicate 16 zN) u :=
  ⟨hb, hz, hR, hF, hRF, ⟨RowOf.nil b8 1 _, by intro k e; cases e⟩, fun k hk => by rw [List.eq_of_mem_replicate hk]; exact OwnNd.zero _ _, by simp, hlt⟩
theorem FkN.val {w : World} {R F : Nat} {vv : Value} {v : List UInt8} {u : World} (h : FkN w R F nilV [] (List.replicate 16 zN) u) (hv : TxO (F + 1) v vv u) : FkN w R F vv v (List.replicate 16 zN) (u.setCell ⟨F, 2, none⟩ vv) := by
  have hg : u.grownBy (u.setCell ⟨F, 2, none⟩ vv) (some F) := grown_set ⟨rfl, rfl, rfl, Nat.le_refl _, fun _ _ _ => rfl⟩ 2 vv
  have hlt := h.hlt
  have hRF := h.hRF
  refine FkN.mk (h.hb.grown hg h.hb.size (fun k e => by cases e; omega)) (h.hz.grown hg (fun e => by simp at e; omega)) (h.hR.grown hg (fun e => by simp at e; omega)) (h.hF.set 2 vv) hRF ⟨hv.1.offV hg (fun k e => by have := hv.2 k e; omega), fun k e => by have := hv.2 k e; omega⟩ (fun k hk => by rw [List.eq_of_mem_replicate hk]; exact OwnNd.zero _ _) (by simp) hlt
theorem part_step (i : Nat) (l : List Rt) (j : Nat) (hj : j < l.length) : partP i (l.take (j + 1)) = partP i (l.take j) ++ (if (l[j].1[0]?.getD 0).toNat = i then [l[j]] else []) := by
  unfold partP
  rw [List.take_succ_eq_append_getElem hj, List.filter_append]
  congr 1
  by_cases h : (l[j].1[0]?.getD 0).toNat = i
  · rw [if_pos h]; simp [h]
  · rw [if_neg h]; simp [h]
theorem partP_len (i : Nat) (l : List Rt) : (partP i l).length ≤ l.length := List.length_filter_le _ _
/-- done so far -/
def DoneN (n : Nat) (body : List Rt) (i : Nat) (kids : List Nd) : Prop := ∀ j < i, (kids[j]?).map erN = some (grw n (shorterP 1 (partP j body)))
theorem DoneN.put {n : Nat} {body : List Rt} {i : Nat} {kids : List Nd} (h : DoneN n body i kids) (hi : i < kids.length) (t : Nd) (ht : erN t = grw n (shorterP 1 (partP i body))) : DoneN n body (i + 1) (kids.set i t) := by
  intro j hj
  by_cases e : j = i
  · subst e
    rw [List.getElem?_set_self hi]
    simp [ht]
  · rw [List.getElem?_set_ne (fun h => e h.symm)]
    exact h j (by omega)
theorem DoneN.all {n : Nat} {body : List Rt} {kids : List Nd} (h : DoneN n body 16 kids) (hl : kids.length = 16) : kids.map erN = (List.range 16).map fun i => grw n (shorterP 1 (partP i body)) := by
  apply List.ext_getElem?
  intro j
  by_cases hj : j < 16
  · rw [List.getElem?_map, List.getElem?_map, List.getElem?_range hj, h j hj]
    rfl
  · rw [List.getElem?_eq_none (by simp; omega), List.getElem?_eq_none (by simp; omega)]
/-- what is handed back -/
theorem FkN.done {w : World} {R F : Nat} {vv : Value} {v : List UInt8} {kids : List Nd} {u u' : World} {n : Nat} {body : List Rt} (h : FkN w R F vv v kids u) (hd : DoneN n body 16 kids) (hg : u.grownBy u' (some w.heap.size)) (hb : Below w.heap.size w u') :
    GrwPost (.mk 3 [] v ((List.range 16).map fun i => grw n (shorterP 1 (partP i body)))) w (.returned (.agg (fcells vv R).toArray)) u' := by
  have hlt := h.hlt
  refine ⟨.mk 3 (.slice none 0 0) [] vv v (.slice (some ⟨R, 0, none⟩) 16 16) kids, rfl, ?_, ?_, hb⟩
  · refine .mk 3 _ [] vv v _ kids (RowOf.nil b8 1 _) (by intro k e; cases e) (h.hv.1.offV hg (fun k e => by have := h.hv.2 k e; omega)) (fun k e => by have := h.hv.2 k e; omega) (h.row.offV hg (fun k e => by have e2 : R = k := (by cases e; rfl); omega)) (fun k e => by have e2 : R = k := (by cases e; rfl); omega) (fun k hk => ?_)
    exact ((h.hk k hk).off hg (by omega)).lower (by omega)
  · simp only [erN, erNL_map, hd.all h.hl]
end Go.Proofs.Ytnhbfnegpjkojaa
