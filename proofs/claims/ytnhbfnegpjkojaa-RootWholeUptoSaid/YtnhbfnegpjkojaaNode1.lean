/- Nodes of a tree in a world. -/
import Derived.Test.YtnhbfnegpjkojaaTree3
import Derived.Test.YtnhbfnegpjkojaaOpenA
set_option linter.unusedSimpArgs false
set_option linter.unusedVariables false
namespace Go.Proofs.Ytnhbfnegpjkojaa
open Go.ChangeShapes Go.WideShapes Go.ChangeAt Go.RowKit
def ndcells : Nd → List Value
  | .mk kd pv _ vv _ kv _ => [.int .i64 kd, pv, vv, kv]
theorem aggNode : Agg Try.prog 25 4 := ⟨_, Try.underlying25, rfl, by kernel_rfl⟩
theorem ndcells_len (x : Nd) : (ndcells x).length = 4 := by cases x; rfl
theorem elNode : El0 Try.prog 23 25 (.agg #[.int .i64 0, .slice none 0 0, .slice none 0 0, .slice none 0 0]) 4 80 ndcells := ⟨by kernel_rfl, by kernel_rfl, rfl, by omega, ndcells_len⟩
inductive IsNd (w : World) : Nd → Prop where
  | mk (kd : Int) (pv : Value) (p : List UInt8) (vv : Value) (v : List UInt8) (kv : Value) (ks : List Nd) (hp : Bytes w pv p) (hv : Bytes w vv v) (hk : RowOf ndcells 4 w kv ks) (h : ∀ k ∈ ks, IsNd w k) : IsNd w (.mk kd pv p vv v kv ks)
theorem IsNd.kept {w w' : World} {x : Nd} (h : IsNd w x) (hb : Below w.heap.size w w') : IsNd w' x := by
  induction h with
  | mk kd pv p vv v kv ks hp hv hk _ ih => exact .mk kd pv p vv v kv ks (hp.below hb) (hv.below hb) (hk.below hb) ih
theorem IsNd.inv {w : World} {kd : Int} {pv : Value} {p : List UInt8} {vv : Value} {v : List UInt8} {kv : Value} {ks : List Nd} (h : IsNd w (.mk kd pv p vv v kv ks)) : Bytes w pv p ∧ Bytes w vv v ∧ RowOf ndcells 4 w kv ks ∧ ∀ k ∈ ks, IsNd w k := by
  cases h with
  | mk _ _ _ _ _ _ _ hp hv hk h => exact ⟨hp, hv, hk, h⟩
mutual
def bulkN : Nd → Nat
  | .mk _ _ p _ v _ ks => 1 + p.length + v.length + bulkNL ks
def bulkNL : List Nd → Nat
  | [] => 0
  | k :: ks => bulkN k + bulkNL ks
end
theorem bulkN_mem {k : Nd} : ∀ {ks : List Nd}, k ∈ ks → bulkN k ≤ bulkNL ks
  | x :: ks, h => by
    unfold bulkNL
    rcases List.mem_cons.1 h with rfl | h
    · omega
    · have := bulkN_mem h; omega
theorem bulkN_pos (x : Nd) : 1 ≤ bulkN x := by cases x; unfold bulkN; omega
theorem bulkN_len : ∀ (ks : List Nd), ks.length ≤ bulkNL ks
  | [] => by simp [bulkNL]
  | k :: ks => by
    have := bulkN_pos k
    have := bulkN_len ks
    simp only [bulkNL, List.length_cons]; omega
theorem bulkNL_sum (l : List Nd) : (l.map bulkN).sum = bulkNL l := by
  induction l with
  | nil => simp [bulkNL]
  | cons x l ih => simp [bulkNL, ih]
variable {H : Type} {enc : TypeId × Value → H} {W : World}
set_option maxRecDepth 100000 in
theorem node_fields {fuel : Nat} {cs : List Value} {x : DataW H × List MemPlace} (h : DataW.trod enc Try.prog W 0 (fun _ => true) true fuel 25 cs = some x) :
    ∃ (c0 c1 c2 c3 : Value) (y0 y1 y2 y3 : DataW H × List MemPlace) (n : Nat), fuel = n + 1 ∧ cs = [c0, c1, c2, c3] ∧ x.1 = .agg [y0.1, y1.1, y2.1, y3.1] ∧ DataW.trod enc Try.prog W 0 (fun _ => true) true n 3 [c0] = some y0 ∧
      DataW.trod enc Try.prog W 0 (fun _ => true) true n 22 [c1] = some y1 ∧ DataW.trod enc Try.prog W 0 (fun _ => true) true n 22 [c2] = some y2 ∧ DataW.trod enc Try.prog W 0 (fun _ => true) true n 23 [c3] = some y3 := by
  obtain ⟨xs, n, hn, hx, hcl, hlen, hf⟩ := DataW.trod_struct Try.underlying25 h
  have hc3 : Try.prog.cellsOf 25 = 4 := by kernel_rfl
  have e0 : Try.prog.cellsOf 3 = 1 := by kernel_rfl
  have e1 : Try.prog.cellsOf 22 = 1 := by kernel_rfl
  have e2 : Try.prog.cellsOf 23 = 1 := by kernel_rfl
  rw [hc3] at hcl
  have hl3 : xs.length = 4 := hlen
  match cs, hcl with
  | [c0, c1, c2, c3], _ =>
    match xs, hl3 with
    | [y0, y1, y2, y3], _ =>
      have h0 := hf 0 _ rfl
      have h1 := hf 1 _ rfl
      have h2 := hf 2 _ rfl
      have h3 := hf 3 _ rfl
      change DataW.trod enc Try.prog W 0 (fun _ => true) true n 3 (([c0, c1, c2, c3].drop 0).take (Try.prog.cellsOf 3)) = some y0 at h0
      change DataW.trod enc Try.prog W 0 (fun _ => true) true n 22 (([c0, c1, c2, c3].drop 1).take (Try.prog.cellsOf 22)) = some y1 at h1
      change DataW.trod enc Try.prog W 0 (fun _ => true) true n 22 (([c0, c1, c2, c3].drop 2).take (Try.prog.cellsOf 22)) = some y2 at h2
      change DataW.trod enc Try.prog W 0 (fun _ => true) true n 23 (([c0, c1, c2, c3].drop 3).take (Try.prog.cellsOf 23)) = some y3 at h3
      rw [e0] at h0
      rw [e1] at h1 h2
      rw [e2] at h3
      exact ⟨c0, c1, c2, c3, y0, y1, y2, y3, n, hn, rfl, by rw [hx]; rfl, h0, h1, h2, h3⟩
set_option maxRecDepth 100000 in
theorem open_node_at : ∀ (fuel : Nat) (cs : List Value) (x : DataW H × List MemPlace), DataW.trod enc Try.prog W 0 (fun _ => true) true fuel 25 cs = some x → ∃ it, cs = ndcells it ∧ IsNd W it ∧ bulkN it ≤ Rows.uptoBulk x.1
  | 0, cs, x, h => by
    obtain ⟨_, _, _, _, _, _, _, _, n, hn, _⟩ := node_fields h
    omega
  | fuel + 1, cs, x, h => by
    obtain ⟨c0, c1, c2, c3, y0, y1, y2, y3, n, hn, rfl, hx, h0, h1, h2, h3⟩ := node_fields h
    obtain rfl : n = fuel := by omega
    obtain ⟨kd, hl, hdd, _⟩ := DataW.trod_int Try.underlying3 h0
    obtain ⟨pv, p, hp1, hp2, hp3⟩ := open_bytes_at elU8.ht Try.underlying5 (by kernel_rfl) h1
    obtain ⟨vv, v, hv1, hv2, hv3⟩ := open_bytes_at elU8.ht Try.underlying5 (by kernel_rfl) h2
    obtain ⟨kv, ks, hk1, hk2, hk3, hk4⟩ := open_rows (f := ndcells) (good := IsNd W) (sz := fun d y => bulkN y ≤ Rows.uptoBulk d) (size := 4) Try.underlying23 (by kernel_rfl) (by omega) ndcells_len h3 (fun m hm cs' x' hx' => by
      have : m < n := by omega
      exact open_node_at m cs' x' hx')
    simp only [List.cons.injEq, and_true] at hl hp1 hv1 hk1
    subst hl; subst hp1; subst hv1; subst hk1
    refine ⟨.mk kd c1 p c2 v c3 ks, rfl, .mk kd c1 p c2 v c3 ks hp2 hv2 hk2 hk3, ?_⟩
    have a1 := upto_sz hp3
    have a2 := upto_sz hv3
    have a3 := upto_rows (m := bulkN) (fun d y hy => hy) hk4
    rw [bulkNL_sum] at a3
    rw [hx]
    simp only [bulkN, Rows.uptoBulk, Rows.uptoBulkAll, hdd]
    omega
set_option maxRecDepth 100000 in
theorem open_node {r : Reach} {b0 : Nat} {v : Value} {d : DataW H} {p : List MemPlace} (hv : Value.okWide Try.prog W r b0 25 v) (h : DataW.Trod enc Try.prog W 0 (fun _ => true) true 25 v d p) :
    ∃ it, v = .agg (ndcells it).toArray ∧ IsNd W it ∧ bulkN it ≤ Rows.uptoBulk d := by
  obtain ⟨cs, rfl, _⟩ := okWide_struct Try.underlying25 hv
  obtain ⟨fuel, hf⟩ := h
  obtain ⟨it, h1, h2, h3⟩ := open_node_at fuel _ _ hf
  exact ⟨it, by rw [← h1]; simp [Value.cells], h2, h3⟩
end Go.Proofs.Ytnhbfnegpjkojaa
