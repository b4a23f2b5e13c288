/- Nodes of a tree in a world. | tree.Right: halves, ends, right, rightFork. | tree.right, tree.rightFork, tree.Right. | tree.rightFork, tree.right, tree.Right. | tree.right of any node, tree.Right. -/
import Derived.Test.YtljbbpcnoajfeaaTreeP
import Derived.Test.YtljbbpcnoajfeaaOpenA
/- (Node1) Nodes of a tree in a world. -/
set_option linter.unusedSimpArgs false
set_option linter.unusedVariables false
namespace Go.Proofs.Ytljbbpcnoajfeaa
open Go.ChangeShapes Go.WideShapes Go.ChangeAt Go.RowKit
def ndcells : Nd → List Value
  | .mk kd pv _ vv _ kv _ => [.int .i64 kd, pv, vv, kv]
theorem aggNode : Agg Try.prog 25 4 := ⟨_, Try.underlying25, rfl, by kernel_rfl⟩
theorem ndcells_len (x : Nd) : (ndcells x).length = 4 := by cases x; rfl
theorem elNode : El0 Try.prog 23 25 (.agg #[.int .i64 0, .slice none 0 0, .slice none 0 0, .slice none 0 0]) 4 80 ndcells := ⟨by kernel_rfl, by kernel_rfl, rfl, by omega, ndcells_len⟩
inductive IsNd (w : World) : Nd → Prop where
  | mk (kd : Int) (pv : Value) (p : List UInt8) (vv : Value) (v : List UInt8) (kv : Value) (ks : List Nd) (hp : Bytes w pv p) (hv : Bytes w vv v) (hk : RowOf ndcells 4 w kv ks) (h : ∀ k ∈ ks, IsNd w k) : IsNd w (.mk kd pv p vv v kv ks)
theorem IsNd.kept {w w' : World} {x : Nd} (h : IsNd w x) (hb : Below w.heap.size w w') : IsNd w' x := by
  induction h with
  | mk kd pv p vv v kv ks hp hv hk _ ih => exact .mk kd pv p vv v kv ks (hp.below hb) (hv.below hb) (hk.below hb) ih
theorem IsNd.inv {w : World} {kd : Int} {pv : Value} {p : List UInt8} {vv : Value} {v : List UInt8} {kv : Value} {ks : List Nd} (h : IsNd w (.mk kd pv p vv v kv ks)) : Bytes w pv p ∧ Bytes w vv v ∧ RowOf ndcells 4 w kv ks ∧ ∀ k ∈ ks, IsNd w k := by
  cases h with
  | mk _ _ _ _ _ _ _ hp hv hk h => exact ⟨hp, hv, hk, h⟩
mutual
def bulkN : Nd → Nat
  | .mk _ _ p _ v _ ks => 1 + p.length + v.length + bulkNL ks
def bulkNL : List Nd → Nat
  | [] => 0
  | k :: ks => bulkN k + bulkNL ks
end
theorem bulkN_mem {k : Nd} : ∀ {ks : List Nd}, k ∈ ks → bulkN k ≤ bulkNL ks
  | x :: ks, h => by
    unfold bulkNL
    rcases List.mem_cons.1 h with rfl | h
    · omega
    · have := bulkN_mem h; omega
theorem bulkN_pos (x : Nd) : 1 ≤ bulkN x := by cases x; unfold bulkN; omega
theorem bulkN_len : ∀ (ks : List Nd), ks.length ≤ bulkNL ks
  | [] => by simp [bulkNL]
  | k :: ks => by
    have := bulkN_pos k
    have := bulkN_len ks
    simp only [bulkNL, List.length_cons]; omega
theorem bulkNL_sum (l : List Nd) : (l.map bulkN).sum = bulkNL l := by
  induction l with
  | nil => simp [bulkNL]
  | cons x l ih => simp [bulkNL, ih]
variable {H : Type} {enc : TypeId × Value → H} {W : World}
set_option maxRecDepth 100000 in
theorem node_fields {fuel : Nat} {cs : List Value} {x : DataW H × List MemPlace} (h : DataW.trod enc Try.prog W 0 (fun _ => true) true fuel 25 cs = some x) :
    ∃ (c0 c1 c2 c3 : Value) (y0 y1 y2 y3 : DataW H × List MemPlace) (n : Nat), fuel = n + 1 ∧ cs = [c0, c1, c2, c3] ∧ x.1 = .agg [y0.1, y1.1, y2.1, y3.1] ∧ DataW.trod enc Try.prog W 0 (fun _ => true) true n 3 [c0] = some y0 ∧
      DataW.trod enc Try.prog W 0 (fun _ => true) true n 22 [c1] = some y1 ∧ DataW.trod enc Try.prog W 0 (fun _ => true) true n 22 [c2] = some y2 ∧ DataW.trod enc Try.prog W 0 (fun _ => true) true n 23 [c3] = some y3 := by
  obtain ⟨xs, n, hn, hx, hcl, hlen, hf⟩ := DataW.trod_struct Try.underlying25 h
  have hc3 : Try.prog.cellsOf 25 = 4 := by kernel_rfl
  have e0 : Try.prog.cellsOf 3 = 1 := by kernel_rfl
  have e1 : Try.prog.cellsOf 22 = 1 := by kernel_rfl
  have e2 : Try.prog.cellsOf 23 = 1 := by kernel_rfl
  rw [hc3] at hcl
  have hl3 : xs.length = 4 := hlen
  match cs, hcl with
  | [c0, c1, c2, c3], _ =>
    match xs, hl3 with
    | [y0, y1, y2, y3], _ =>
      have h0 := hf 0 _ rfl
      have h1 := hf 1 _ rfl
      have h2 := hf 2 _ rfl
      have h3 := hf 3 _ rfl
      change DataW.trod enc Try.prog W 0 (fun _ => true) true n 3 (([c0, c1, c2, c3].drop 0).take (Try.prog.cellsOf 3)) = some y0 at h0
      change DataW.trod enc Try.prog W 0 (fun _ => true) true n 22 (([c0, c1, c2, c3].drop 1).take (Try.prog.cellsOf 22)) = some y1 at h1
      change DataW.trod enc Try.prog W 0 (fun _ => true) true n 22 (([c0, c1, c2, c3].drop 2).take (Try.prog.cellsOf 22)) = some y2 at h2
      change DataW.trod enc Try.prog W 0 (fun _ => true) true n 23 (([c0, c1, c2, c3].drop 3).take (Try.prog.cellsOf 23)) = some y3 at h3
      rw [e0] at h0
      rw [e1] at h1 h2
      rw [e2] at h3
      exact ⟨c0, c1, c2, c3, y0, y1, y2, y3, n, hn, rfl, by rw [hx]; rfl, h0, h1, h2, h3⟩
set_option maxRecDepth 100000 in
theorem open_node_at : ∀ (fuel : Nat) (cs : List Value) (x : DataW H × List MemPlace), DataW.trod enc Try.prog W 0 (fun _ => true) true fuel 25 cs = some x → ∃ it, cs = ndcells it ∧ IsNd W it ∧ bulkN it ≤ Rows.uptoBulk x.1
  | 0, cs, x, h => by
    obtain ⟨_, _, _, _, _, _, _, _, n, hn, _⟩ := node_fields h
    omega
  | fuel + 1, cs, x, h => by
    obtain ⟨c0, c1, c2, c3, y0, y1, y2, y3, n, hn, rfl, hx, h0, h1, h2, h3⟩ := node_fields h
    obtain rfl : n = fuel := by omega
    obtain ⟨kd, hl, hdd, _⟩ := DataW.trod_int Try.underlying3 h0
    obtain ⟨pv, p, hp1, hp2, hp3⟩ := open_bytes_at elU8.ht Try.underlying5 (by kernel_rfl) h1
    obtain ⟨vv, v, hv1, hv2, hv3⟩ := open_bytes_at elU8.ht Try.underlying5 (by kernel_rfl) h2
    obtain ⟨kv, ks, hk1, hk2, hk3, hk4⟩ := open_rows (f := ndcells) (good := IsNd W) (sz := fun d y => bulkN y ≤ Rows.uptoBulk d) (size := 4) Try.underlying23 (by kernel_rfl) (by omega) ndcells_len h3 (fun m hm cs' x' hx' => by
      have : m < n := by omega
      exact open_node_at m cs' x' hx')
    simp only [List.cons.injEq, and_true] at hl hp1 hv1 hk1
    subst hl; subst hp1; subst hv1; subst hk1
    refine ⟨.mk kd c1 p c2 v c3 ks, rfl, .mk kd c1 p c2 v c3 ks hp2 hv2 hk2 hk3, ?_⟩
    have a1 := upto_sz hp3
    have a2 := upto_sz hv3
    have a3 := upto_rows (m := bulkN) (fun d y hy => hy) hk4
    rw [bulkNL_sum] at a3
    rw [hx]
    simp only [bulkN, Rows.uptoBulk, Rows.uptoBulkAll, hdd]
    omega
set_option maxRecDepth 100000 in
theorem open_node {r : Reach} {b0 : Nat} {v : Value} {d : DataW H} {p : List MemPlace} (hv : Value.okWide Try.prog W r b0 25 v) (h : DataW.Trod enc Try.prog W 0 (fun _ => true) true 25 v d p) :
    ∃ it, v = .agg (ndcells it).toArray ∧ IsNd W it ∧ bulkN it ≤ Rows.uptoBulk d := by
  obtain ⟨cs, rfl, _⟩ := okWide_struct Try.underlying25 hv
  obtain ⟨fuel, hf⟩ := h
  obtain ⟨it, h1, h2, h3⟩ := open_node_at fuel _ _ hf
  exact ⟨it, by rw [← h1]; simp [Value.cells], h2, h3⟩
end Go.Proofs.Ytljbbpcnoajfeaa
/- (Node2) tree.Right: halves, ends, right, rightFork. -/
namespace Go.Proofs.Ytljbbpcnoajfeaa
open Go.RowKit
theorem Ext.nd {w : World} (u : Ext w) {k : Nd} (h : IsNd w k) : IsNd u.val k := h.kept u.property
theorem half_step (l : List UInt8) (k : Nat) (hk : k < l.length) : half (l.take (k + 1)) = (half (l.take k) && decide (l[k].toNat ≤ 15)) := by
  unfold half
  rw [List.take_succ_eq_append_getElem hk, List.all_append]
  simp
theorem half_not {l : List UInt8} {k : Nat} (hk : k < l.length) (h : ¬ l[k].toNat ≤ 15) : half l = false := by
  unfold half
  rw [List.all_eq_false]
  exact ⟨l[k], List.getElem_mem hk, by simpa using h⟩
set_option maxHeartbeats 1000000 in
set_option maxRecDepth 100000 in
theorem tree_halves_any (a : Option Addr) (n c : Nat) (l : List UInt8) (hn : l.length = n) (w : World) (h : Bytes w (.slice a n c) l) : Calls Try.prog 88 #[.slice a n c] w fun e w' => e = .returned (.bool (half l)) ∧ Below w.heap.size w w' := by
  obtain ⟨R, hR⟩ : ∃ R, R = half l := ⟨_, rfl⟩
  rw [← hR]
  have Hn := Lib.hid hn
  have HR := Lib.hid hR
  have hnn : n ≤ 9223372036854775807 := by have h1 := h.fits.2.1; have h2 := h.fits.2.2; unfold maxLen at h2; omega
  clear hn hR
  go_enter Try.func88, Try.ntmps88
  go_wp2
  go_loopw [7] (fun ix wr => ∃ k : Nat, k ≤ n ∧ ix = .int .i64 (k : Int) ∧ half (l.take k) = true ∧ Below w.heap.size w wr) (fun ix _ => n - (intOf ix).toNat)
  case atStart => exact ⟨0, by omega, rfl, rfl, Below.refl _ _⟩
  case round =>
    obtain ⟨k, hkk, rfl, hall, hbel⟩ := hrel
    by_cases hlt : k < n
    · have hki : (k : Int) < (n : Int) := by omega
      have hkl : k < l.length := by rw [Hn.out]; exact hlt
      obtain ⟨b, off, rfl, hc⟩ := Bytes.at (h.below hbel) k hkl
      obtain ⟨x, hx⟩ : ∃ x, x = l[k] := ⟨_, rfl⟩
      rw [← hx] at hc
      have hst := half_step l k hkl
      rw [hall, ← hx, Bool.true_and] at hst
      have Hx := Lib.hid hx
      by_cases h15 : x.toNat ≤ 15
      · have hi15 : (x.toNat : Int) ≤ 15 := by omega
        rw [decide_eq_true h15] at hst
        clear hx hall
        go_wp2
        go_roundw
        case rel => exact ⟨k + 1, by omega, by go_num, hst, hbel⟩
        case measure => simp [intOf]; omega
      · have hi15 : (15 : Int) < (x.toNat : Int) := by omega
        have hRf : R = false := by rw [HR.out]; exact half_not hkl (by rw [← Hx.out]; exact h15)
        subst hRf
        clear hx hall hst
        go_wp2
        go_ret
        exact ⟨rfl, hbel⟩
    · obtain rfl : k = n := by omega
      have hRt : R = true := by rw [HR.out, ← hall, ← Hn.out, List.take_length]
      subst hRt
      go_wp2
      go_ret
      exact ⟨rfl, hbel⟩
set_option maxRecDepth 100000 in
theorem ends_any (d : Nat) (w : World) : Calls Try.prog 89 #[.int .i64 (d : Int)] w fun e w' => e = .returned (.bool (endsP d)) ∧ Below w.heap.size w w' := by
  have hm : (d : Int).tmod 2 = ((d % 2 : Nat) : Int) := by rw [Int.tmod_eq_emod_of_nonneg (by omega)]; omega
  by_cases h2 : d % 2 = 0
  · by_cases h64 : d ≤ 64
    · have hi : (d : Int) ≤ 64 := by omega
      have hR : endsP d = true := (endsP_iff d).2 ⟨h2, h64⟩
      rw [h2] at hm
      rw [hR]
      go_enter Try.func89, Try.ntmps89
      go_wp2
      go_ret
      exact ⟨rfl, Below.refl _ _⟩
    · have hi : ((d : Int) ≤ 64) = False := eq_false (by omega)
      have hR : endsP d = false := by rw [← Bool.not_eq_true, endsP_iff]; omega
      rw [h2] at hm
      rw [hR]
      go_enter Try.func89, Try.ntmps89
      go_wp2
      go_ret
      exact ⟨rfl, Below.refl _ _⟩
  · have h1 : d % 2 = 1 := by omega
    have hR : endsP d = false := by rw [← Bool.not_eq_true, endsP_iff]; omega
    rw [h1] at hm
    rw [hR]
    go_enter Try.func89, Try.ntmps89
    go_wp2
    go_ret
    exact ⟨rfl, Below.refl _ _⟩
end Go.Proofs.Ytljbbpcnoajfeaa
/- (Node3) tree.right, tree.rightFork, tree.Right. -/
namespace Go.Proofs.Ytljbbpcnoajfeaa
open Go.RowKit
def RgtC (n : Nat) (k : Nd) : Prop := ∀ (d : Nat) (u : World), IsNd u k → d + bulkN k ≤ n → Calls Try.prog 51 #[.agg (ndcells k).toArray, .int .i64 (d : Int)] u fun e w' => e = .returned (.bool (rgt d k)) ∧ Below u.heap.size u w'
section
variable (N : Nat) (hN : N ≤ 100000000000) (pa va ka : Option Addr) (pn pc vn vc kn kc : Nat) (p v : List UInt8) (ks : List Nd) (hpn : p.length = pn) (hvn : v.length = vn) (hkn : ks.length = kn) (d : Nat) (w : World)
  (hp : Bytes w (.slice pa pn pc) p) (hv : Bytes w (.slice va vn vc) v) (hk : RowOf ndcells 4 w (.slice ka kn kc) ks) (hks : ∀ k ∈ ks, IsNd w k)
include hN hpn hvn hp in
set_option maxHeartbeats 1000000 in
set_option maxRecDepth 100000 in
theorem right_leaf (hd : d + pn ≤ N) : Calls Try.prog 51 #[.agg #[.int .i64 1, .slice pa pn pc, .slice va vn vc, .slice ka kn kc], .int .i64 (d : Int)] w fun e w' => e = .returned (.bool (rgt d (.mk 1 (.slice pa pn pc) p (.slice va vn vc) v (.slice ka kn kc) ks))) ∧ Below w.heap.size w w' := by
  have hR : rgt d (.mk 1 (.slice pa pn pc) p (.slice va vn vc) v (.slice ka kn kc) ks) = (half p && endsP (d + pn) && decide (0 < vn) && decide (vn ≤ 1024)) := by unfold rgt; rw [hpn, hvn]; rfl
  rw [hR]
  obtain ⟨w1, hw1⟩ : ∃ w1, w1 = w.alloc (.cells #[.int .i64 1, .slice pa pn pc, .slice va vn vc, .slice ka kn kc] 25) := ⟨_, rfl⟩
  have hz : Blk 25 w1 w.heap.size [.int .i64 1, .slice pa pn pc, .slice va vn vc, .slice ka kn kc] := by rw [hw1]; exact Blk.new w _ _
  have hbel : Below w.heap.size w w1 := by rw [hw1]; exact (Below.refl _ _).alloc (Nat.le_refl _) _
  have k0 := (hz.cell 0).trans (show _ = some (Value.int .i64 1) from rfl)
  have hwr : IntKind.i64.wrap ((d : Int) + (pn : Int)) = (d : Int) + (pn : Int) := IntWalk.i64_in _ (by omega)
  have Hw1 := Lib.hid hw1
  have C1 := Lib.hid (fun u (hu : Below w.heap.size w u) => tree_halves_any pa pn pc p hpn u (hp.below hu))
  have c2 := fun u => ends_any (d + pn) u
  simp only [Int.natCast_add] at c2
  have C2 := Lib.hid c2
  clear c2
  have k1 := (hz.cell 1).trans (show _ = some (Value.slice pa pn pc) from rfl)
  clear hw1 hR
  cases hh : half p with
  | false =>
    rw [hh] at C1
    simp only [Bool.false_and]
    go_enter Try.func51, Try.ntmps51
    go_wp2_with (first
          | (go_at_call 88; (with_reducible refine (C1.out _ (by rw [← Hw1.out]; exact hbel)).mono ?_); rintro e w2 ⟨rfl, b2⟩; rw [← Hw1.out] at b2; have bb2 := Below.then hbel b2; have z2 := hz.kept b2; have k1 := (z2.cell 1).trans (show _ = some (Value.slice pa pn pc) from rfl); have k2 := (z2.cell 2).trans (show _ = some (Value.slice va vn vc) from rfl))
          | (go_at_call 89; (with_reducible refine (C2.out _).mono ?_); rintro e w3 ⟨rfl, b3⟩; have bb3 := Below.then bb2 b3; have z3 := z2.kept b3; have k3 := (z3.cell 2).trans (show _ = some (Value.slice va vn vc) from rfl)))
    go_ret
    exact ⟨rfl, bb2⟩
  | true =>
    rw [hh] at C1
    cases he : endsP (d + pn) with
    | false =>
      rw [he] at C2
      simp only [Bool.false_and, Bool.and_false]
      go_enter Try.func51, Try.ntmps51
      go_wp2_with (first
          | (go_at_call 88; (with_reducible refine (C1.out _ (by rw [← Hw1.out]; exact hbel)).mono ?_); rintro e w2 ⟨rfl, b2⟩; rw [← Hw1.out] at b2; have bb2 := Below.then hbel b2; have z2 := hz.kept b2; have k1 := (z2.cell 1).trans (show _ = some (Value.slice pa pn pc) from rfl); have k2 := (z2.cell 2).trans (show _ = some (Value.slice va vn vc) from rfl))
          | (go_at_call 89; (with_reducible refine (C2.out _).mono ?_); rintro e w3 ⟨rfl, b3⟩; have bb3 := Below.then bb2 b3; have z3 := z2.kept b3; have k3 := (z3.cell 2).trans (show _ = some (Value.slice va vn vc) from rfl)))
      go_ret
      exact ⟨rfl, bb3⟩
    | true =>
      rw [he] at C2
      simp only [Bool.true_and]
      by_cases h1 : 0 < vn
      · have h1i : (0 : Int) < (vn : Int) := by omega
        have h2i : decide ((vn : Int) ≤ 1024) = decide (vn ≤ 1024) := by congr 1; rw [eq_iff_iff]; omega
        rw [decide_eq_true h1, Bool.true_and]
        obtain ⟨b, hb⟩ : ∃ b, b = decide (vn ≤ 1024) := ⟨_, rfl⟩
        rw [← hb] at h2i ⊢
        clear hb
        go_enter Try.func51, Try.ntmps51
        go_wp2_with (first
          | (go_at_call 88; (with_reducible refine (C1.out _ (by rw [← Hw1.out]; exact hbel)).mono ?_); rintro e w2 ⟨rfl, b2⟩; rw [← Hw1.out] at b2; have bb2 := Below.then hbel b2; have z2 := hz.kept b2; have k1 := (z2.cell 1).trans (show _ = some (Value.slice pa pn pc) from rfl); have k2 := (z2.cell 2).trans (show _ = some (Value.slice va vn vc) from rfl))
          | (go_at_call 89; (with_reducible refine (C2.out _).mono ?_); rintro e w3 ⟨rfl, b3⟩; have bb3 := Below.then bb2 b3; have z3 := z2.kept b3; have k3 := (z3.cell 2).trans (show _ = some (Value.slice va vn vc) from rfl)))
        go_ret
        exact ⟨rfl, bb3⟩
      · have h1i : ((0 : Int) < (vn : Int)) = False := eq_false (by omega)
        have h1n : decide (0 < vn) = false := decide_eq_false h1
        rw [h1n, Bool.false_and]
        go_enter Try.func51, Try.ntmps51
        go_wp2_with (first
          | (go_at_call 88; (with_reducible refine (C1.out _ (by rw [← Hw1.out]; exact hbel)).mono ?_); rintro e w2 ⟨rfl, b2⟩; rw [← Hw1.out] at b2; have bb2 := Below.then hbel b2; have z2 := hz.kept b2; have k1 := (z2.cell 1).trans (show _ = some (Value.slice pa pn pc) from rfl); have k2 := (z2.cell 2).trans (show _ = some (Value.slice va vn vc) from rfl))
          | (go_at_call 89; (with_reducible refine (C2.out _).mono ?_); rintro e w3 ⟨rfl, b3⟩; have bb3 := Below.then bb2 b3; have z3 := z2.kept b3; have k3 := (z3.cell 2).trans (show _ = some (Value.slice va vn vc) from rfl)))
        go_ret
        exact ⟨rfl, bb3⟩
include hN hpn hkn hp hk hks in
set_option maxHeartbeats 4000000 in
set_option maxRecDepth 100000 in
theorem right_road (ih : ∀ k ∈ ks, RgtC N k) (hd : d + 1 + pn + bulkNL ks ≤ N) : Calls Try.prog 51 #[.agg #[.int .i64 2, .slice pa pn pc, .slice va vn vc, .slice ka kn kc], .int .i64 (d : Int)] w fun e w' => e = .returned (.bool (rgt d (.mk 2 (.slice pa pn pc) p (.slice va vn vc) v (.slice ka kn kc) ks))) ∧ Below w.heap.size w w' := by
  have hR : rgt d (.mk 2 (.slice pa pn pc) p (.slice va vn vc) v (.slice ka kn kc) ks) = (decide (0 < pn) && half p && decide (kn = 1) && decide ((ks[0]?.map Nd.kd).getD 0 = 3) && rgtL (d + pn) ks) := by unfold rgt; rw [hpn, hkn]; rfl
  rw [hR]
  obtain ⟨w1, hw1⟩ : ∃ w1, w1 = w.alloc (.cells #[.int .i64 2, .slice pa pn pc, .slice va vn vc, .slice ka kn kc] 25) := ⟨_, rfl⟩
  have hz : Blk 25 w1 w.heap.size [.int .i64 2, .slice pa pn pc, .slice va vn vc, .slice ka kn kc] := by rw [hw1]; exact Blk.new w _ _
  have hbel : Below w.heap.size w w1 := by rw [hw1]; exact (Below.refl _ _).alloc (Nat.le_refl _) _
  have k1 := fun u : Ext w1 => u.cell ((hz.cell 1).trans (show _ = some (Value.slice pa pn pc) from rfl))
  have k3 := fun u : Ext w1 => u.cell ((hz.cell 3).trans (show _ = some (Value.slice ka kn kc) from rfl))
  have hp1 := hp.below hbel
  have c1 := fun (u : Ext w1) => tree_halves_any pa pn pc p hpn u.val (u.row hp1)
  have Hw1 := Lib.hid hw1
  have C1 := Lib.hid c1
  clear hw1 hR c1
  by_cases h1 : 0 < pn
  · have h1i : (0 : Int) < (pn : Int) := by omega
    have h1t : (0 < pn) = True := eq_true h1
    rw [decide_eq_true h1, Bool.true_and]
    cases hh : half p with
    | false =>
      rw [hh] at C1
      simp only [Bool.false_and]
      go_enter Try.func51, Try.ntmps51
      go_wp2_with fail
      rw [← Hw1.out]
      refine wp_region_typed w1 35 (by kernel_rfl) (by kernel_rfl) (Below.refl _ _) ?_; simp only [List.take_succ_cons, List.take_zero, List.take_nil]
      iterate 7 (refine wpX_step (by rfl) (fun K hK => ?_); go_simp; first | (refine hK _ ?_; clear hK K) | (apply Exists.intro; refine ⟨fun _ => ?_, hK _ ?_⟩; fail; clear hK K))
      (refine wpX_step (by rfl) (fun K hK => ?_); go_simp; first | (refine hK _ ?_; clear hK K) | (apply Exists.intro; refine ⟨fun _ => ?_, hK _ ?_⟩; exact C1.out _; clear hK K))
      iterate 27 (refine wpX_step (by rfl) (fun K hK => ?_); go_simp; first | (refine hK _ ?_; clear hK K) | (apply Exists.intro; refine ⟨fun _ => ?_, hK _ ?_⟩; fail; clear hK K))
      refine wpX_nil ?_
      intro u2 hb2
      simp only [List.reverse_nil, forallRel]
      change wpList _ _ _ [_] _ _
      have bb2 := Below.then hbel hb2
      go_wp2_with fail
      go_ret
      exact ⟨rfl, bb2⟩
    | true =>
      rw [hh] at C1
      rw [Bool.true_and]
      by_cases h2 : kn = 1
      · subst h2
        obtain ⟨k, rfl⟩ := List.length_eq_one_iff.1 hkn
        rw [decide_eq_true rfl, Bool.true_and]
        simp only [List.getElem?_cons_zero, Option.map_some, Option.getD_some, rgtL, Bool.and_true]
        have hkk := hks k List.mem_cons_self
        obtain ⟨bk, ok, rfl, hr⟩ := RowOf.range ndcells_len (hk.below hbel) 0 (by simp)
        simp only [List.getElem_cons_zero, Nat.zero_mul, Nat.add_zero] at hr
        have hck : w1.cell? ⟨bk, ok, none⟩ = some (.int .i64 k.kd) := by
          have := hr 0 (.int .i64 k.kd) (by cases k; rfl)
          simpa using this
        have kk := fun u : Ext w1 => u.cell hck
        by_cases h3 : k.kd = 3
        · have h3t : (k.kd == 3) = true := by rw [h3]; rfl
          rw [decide_eq_true h3, Bool.true_and]
          have hk1 := hkk.kept hbel
          have hbk : bulkNL [k] = bulkN k := by simp [bulkNL]
          have c2 := fun (u : Ext w1) => ih k List.mem_cons_self (d + pn) u.val (u.nd hk1) (by rw [hbk] at hd; omega)
          simp only [Int.natCast_add] at c2
          have hwr : IntKind.i64.wrap ((d : Int) + (pn : Int)) = (d : Int) + (pn : Int) := IntWalk.i64_in _ (by omega)
          obtain ⟨K, hK⟩ : ∃ K, K = ndcells k := ⟨_, rfl⟩
          have hKl : K.length = 4 := by rw [hK]; exact ndcells_len k
          rw [← hK] at hr
          simp only [← hK] at c2
          obtain ⟨kk3, hkk3⟩ : ∃ x, x = k.kd := ⟨_, rfl⟩
          simp only [← hkk3] at kk h3t
          obtain ⟨rr, hrr⟩ : ∃ x, x = rgt (d + pn) k := ⟨_, rfl⟩
          simp only [← hrr] at c2 ⊢
          have C2 := Lib.hid c2
          have HKl := Lib.hid hKl
          have Hr := Lib.hid hr
          clear c2 hK hKl hr hkk hk1 h3 hck hkk3 hrr
          go_enter Try.func51, Try.ntmps51
          go_wp2_with fail
          rw [← Hw1.out]
          refine wp_region_typed w1 35 (by kernel_rfl) (by kernel_rfl) (Below.refl _ _) ?_; simp only [List.take_succ_cons, List.take_zero, List.take_nil]
          iterate 7 (refine wpX_step (by rfl) (fun K hK => ?_); go_simp; first | (refine hK _ ?_; clear hK K) | (apply Exists.intro; refine ⟨fun _ => ?_, hK _ ?_⟩; fail; clear hK K))
          (refine wpX_step (by rfl) (fun K hK => ?_); go_simp; first | (refine hK _ ?_; clear hK K) | (apply Exists.intro; refine ⟨fun _ => ?_, hK _ ?_⟩; exact C1.out _; clear hK K))
          iterate 19 (refine wpX_step (by rfl) (fun K hK => ?_); go_simp; first | (refine hK _ ?_; clear hK K) | (apply Exists.intro; refine ⟨fun _ => ?_, hK _ ?_⟩; fail; clear hK K))
          (refine wpX_step (by rfl) (fun K hK => ?_); rw [if_pos (by rfl)]; refine ⟨_, fun u => const_loadm _ (.tmp 62) (by rfl) _ _ (by rfl) aggNode HKl.out (rangeAt.ext Hr.out u), hK _ ?_⟩; clear hK K; simp only [Act.put, List.setIfInBounds_toArray, List.set_cons_zero, List.set_cons_succ])
          iterate 5 (refine wpX_step (by rfl) (fun K hK => ?_); go_simp; first | (refine hK _ ?_; clear hK K) | (apply Exists.intro; refine ⟨fun _ => ?_, hK _ ?_⟩; fail; clear hK K))
          (refine wpX_step (by rfl) (fun K hK => ?_); go_simp; first | (refine hK _ ?_; clear hK K) | (apply Exists.intro; refine ⟨fun _ => ?_, hK _ ?_⟩; exact C2.out _; clear hK K))
          (refine wpX_step (by rfl) (fun K hK => ?_); go_simp; first | (refine hK _ ?_; clear hK K) | (apply Exists.intro; refine ⟨fun _ => ?_, hK _ ?_⟩; fail; clear hK K))
          refine wpX_nil ?_
          intro u2 hb2
          simp only [List.reverse_nil, forallRel]
          change wpList _ _ _ [_] _ _
          have bb2 := Below.then hbel hb2
          go_wp2_with fail
          go_ret
          exact ⟨rfl, bb2⟩
        · have h3t : (k.kd == 3) = false := by rw [beq_eq_false_iff_ne]; exact h3
          rw [decide_eq_false h3, Bool.false_and]
          clear h3 hr hkk
          go_enter Try.func51, Try.ntmps51
          go_wp2_with fail
          rw [← Hw1.out]
          refine wp_region_typed w1 35 (by kernel_rfl) (by kernel_rfl) (Below.refl _ _) ?_; simp only [List.take_succ_cons, List.take_zero, List.take_nil]
          iterate 7 (refine wpX_step (by rfl) (fun K hK => ?_); go_simp; first | (refine hK _ ?_; clear hK K) | (apply Exists.intro; refine ⟨fun _ => ?_, hK _ ?_⟩; fail; clear hK K))
          (refine wpX_step (by rfl) (fun K hK => ?_); go_simp; first | (refine hK _ ?_; clear hK K) | (apply Exists.intro; refine ⟨fun _ => ?_, hK _ ?_⟩; exact C1.out _; clear hK K))
          iterate 27 (refine wpX_step (by rfl) (fun K hK => ?_); go_simp; first | (refine hK _ ?_; clear hK K) | (apply Exists.intro; refine ⟨fun _ => ?_, hK _ ?_⟩; fail; clear hK K))
          refine wpX_nil ?_
          intro u2 hb2
          simp only [List.reverse_nil, forallRel]
          change wpList _ _ _ [_] _ _
          have bb2 := Below.then hbel hb2
          go_wp2_with fail
          go_ret
          exact ⟨rfl, bb2⟩
      · have h2i : ((kn : Int) == 1) = false := by rw [beq_eq_false_iff_ne]; omega
        rw [decide_eq_false h2, Bool.false_and, Bool.false_and]
        go_enter Try.func51, Try.ntmps51
        go_wp2_with fail
        rw [← Hw1.out]
        refine wp_region_typed w1 35 (by kernel_rfl) (by kernel_rfl) (Below.refl _ _) ?_; simp only [List.take_succ_cons, List.take_zero, List.take_nil]
        iterate 7 (refine wpX_step (by rfl) (fun K hK => ?_); go_simp; first | (refine hK _ ?_; clear hK K) | (apply Exists.intro; refine ⟨fun _ => ?_, hK _ ?_⟩; fail; clear hK K))
        (refine wpX_step (by rfl) (fun K hK => ?_); go_simp; first | (refine hK _ ?_; clear hK K) | (apply Exists.intro; refine ⟨fun _ => ?_, hK _ ?_⟩; exact C1.out _; clear hK K))
        iterate 27 (refine wpX_step (by rfl) (fun K hK => ?_); go_simp; first | (refine hK _ ?_; clear hK K) | (apply Exists.intro; refine ⟨fun _ => ?_, hK _ ?_⟩; fail; clear hK K))
        refine wpX_nil ?_
        intro u2 hb2
        simp only [List.reverse_nil, forallRel]
        change wpList _ _ _ [_] _ _
        have bb2 := Below.then hbel hb2
        go_wp2_with fail
        go_ret
        exact ⟨rfl, bb2⟩
  · have h1i : ((0 : Int) < (pn : Int)) = False := eq_false (by omega)
    have h1n : (0 < pn) = False := eq_false h1
    rw [decide_eq_false h1]
    simp only [Bool.false_and]
    go_enter Try.func51, Try.ntmps51
    go_wp2_with fail
    rw [← Hw1.out]
    refine wp_region_typed w1 35 (by kernel_rfl) (by kernel_rfl) (Below.refl _ _) ?_; simp only [List.take_succ_cons, List.take_zero, List.take_nil]
    iterate 35 (refine wpX_step (by rfl) (fun K hK => ?_); go_simp; first | (refine hK _ ?_; clear hK K) | (apply Exists.intro; refine ⟨fun _ => ?_, hK _ ?_⟩; fail; clear hK K))
    refine wpX_nil ?_
    intro u2 hb2
    simp only [List.reverse_nil, forallRel]
    change wpList _ _ _ [_] _ _
    have bb2 := Below.then hbel hb2
    go_wp2_with fail
    go_ret
    exact ⟨rfl, bb2⟩
end
end Go.Proofs.Ytljbbpcnoajfeaa
/- (Node4) tree.rightFork, tree.right, tree.Right. -/
namespace Go.Proofs.Ytljbbpcnoajfeaa
open Go.RowKit
theorem many_app (l m : List Nd) : manyP (l ++ m) = manyP l + manyP m := by
  induction l with
  | nil => simp [manyP]
  | cons x l ih => simp only [List.cons_append, manyP, ih]; omega
theorem many_step (ks : List Nd) (i : Nat) (hi : i < ks.length) : manyP (ks.take (i + 1)) = manyP (ks.take i) + (if ks[i].kd = 0 then 0 else 1) := by
  rw [List.take_succ_eq_append_getElem hi, many_app]
  simp [manyP]
theorem many_le (ks : List Nd) : manyP ks ≤ ks.length := by
  induction ks with
  | nil => simp [manyP]
  | cons k ks ih => simp only [manyP, List.length_cons]; split <;> omega
theorem rgtL_step (d : Nat) (ks : List Nd) (i : Nat) (hi : i < ks.length) (h : rgtL d (ks.take i) = true) (hk : rgt d ks[i] = true) : rgtL d (ks.take (i + 1)) = true := by
  rw [rgtL_iff] at h ⊢
  intro k hk'
  rw [List.take_succ_eq_append_getElem hi] at hk'
  rcases List.mem_append.1 hk' with h1 | h1
  · exact h k h1
  · rw [List.mem_singleton] at h1; rw [h1]; exact hk
theorem rgtL_not (d : Nat) (ks : List Nd) (i : Nat) (hi : i < ks.length) (hk : rgt d ks[i] = false) : rgtL d ks = false := by
  rw [← Bool.not_eq_true, rgtL_iff]
  intro h
  rw [h _ (List.getElem_mem hi)] at hk
  simp at hk
theorem IsNd.one {w : World} {k : Nd} (h : IsNd w k) : ∀ u ∈ ndcells k, u.oneCell' = true := by
  obtain ⟨kd, pv, p, vv, v, kv, ks⟩ := k
  obtain ⟨hp, hv, hk, _⟩ := h.inv
  obtain ⟨a, c, rfl, _⟩ := hp.form
  obtain ⟨a, c, rfl, _⟩ := hv.form
  obtain ⟨a, c, rfl, _⟩ := hk.form
  intro u hu
  simp only [ndcells, List.mem_cons, List.not_mem_nil, or_false] at hu
  rcases hu with rfl | rfl | rfl | rfl <;> rfl
section
variable (N : Nat) (hN : N ≤ 100000000000) (pa va ka : Option Addr) (pn pc vn vc kn kc : Nat) (p v : List UInt8) (ks : List Nd) (hpn : p.length = pn) (hvn : v.length = vn) (hkn : ks.length = kn) (d : Nat) (w : World)
  (hp : Bytes w (.slice pa pn pc) p) (hv : Bytes w (.slice va vn vc) v) (hk : RowOf ndcells 4 w (.slice ka kn kc) ks) (hks : ∀ k ∈ ks, IsNd w k)
include hN hvn hkn hk hks in
set_option maxHeartbeats 4000000 in
set_option maxRecDepth 100000 in
theorem rfork_any (ih : ∀ k ∈ ks, RgtC N k) (hd : d + 1 + bulkNL ks ≤ N) : Calls Try.prog 90 #[.agg #[.int .i64 3, .slice pa pn pc, .slice va vn vc, .slice ka kn kc], .int .i64 (d : Int)] w fun e w' => e = .returned (.bool (rgt d (.mk 3 (.slice pa pn pc) p (.slice va vn vc) v (.slice ka kn kc) ks))) ∧ Below w.heap.size w w' := by
  obtain ⟨R, hR⟩ : ∃ R, R = rgt d (.mk 3 (.slice pa pn pc) p (.slice va vn vc) v (.slice ka kn kc) ks) := ⟨_, rfl⟩
  rw [← hR]
  have hR2 : R = (decide (kn = 16) && decide (vn ≤ 1024) && (decide (vn = 0) || endsP d) && rgtL (d + 1) ks && decide (2 ≤ min vn 1 + manyP ks)) := by rw [hR]; unfold rgt; rw [hvn, hkn]; rfl
  obtain ⟨w1, hw1⟩ : ∃ w1, w1 = w.alloc (.cells #[.int .i64 3, .slice pa pn pc, .slice va vn vc, .slice ka kn kc] 25) := ⟨_, rfl⟩
  have hz : Blk 25 w1 w.heap.size [.int .i64 3, .slice pa pn pc, .slice va vn vc, .slice ka kn kc] := by rw [hw1]; exact Blk.new w _ _
  have hbel : Below w.heap.size w w1 := by rw [hw1]; exact (Below.refl _ _).alloc (Nat.le_refl _) _
  have Hw1 := Lib.hid hw1
  have k2 := (hz.cell 2).trans (show _ = some (Value.slice va vn vc) from rfl)
  have k3 := (hz.cell 3).trans (show _ = some (Value.slice ka kn kc) from rfl)
  rw [hw1] at k2 k3
  clear hw1 hR
  by_cases h16 : kn = 16
  · subst h16
    by_cases h1024 : vn ≤ 1024
    · have c2 := fun u => ends_any d u
      by_cases hv0 : vn = 0 ∨ endsP d = true
      · have hR3 : R = (rgtL (d + 1) ks && decide (2 ≤ min vn 1 + manyP ks)) := by
          rw [hR2, decide_eq_true h1024]
          have : (decide (vn = 0) || endsP d) = true := by rw [Bool.or_eq_true, decide_eq_true_eq]; exact hv0
          rw [this]; simp
        have h1024i : ¬ (1024 : Int) < (vn : Int) := by omega
        have HR3 := Lib.hid hR3
        have Hkn := Lib.hid hkn
        clear hR2 hR3 hkn
        rcases (show vn = 0 ∨ (0 < vn ∧ endsP d = true) from by rcases hv0 with h | h; exact .inl h; by_cases h0 : vn = 0; exact .inl h0; exact .inr ⟨by omega, h⟩) with hv0 | ⟨hv1, he⟩
        · subst hv0
          have HMIN := Lib.hid (show (0 : Nat) = min 0 1 from rfl)
          clear c2
          go_enter Try.func90, Try.ntmps90
          go_wp2_with fail
          rw [← Hw1.out]
          go_loopw [5, 36] (fun mv ix wr => ∃ i : Nat, i ≤ 16 ∧ mv = .int .i64 ((0 + manyP (ks.take i) : Nat) : Int) ∧ ix = .int .i64 (i : Int) ∧ rgtL (d + 1) (ks.take i) = true ∧ Below w.heap.size w wr) (fun _ ix _ => 16 - (intOf ix).toNat)
          case atStart => exact ⟨0, by omega, by simp [manyP], rfl, rfl, hbel⟩
          case round =>
            obtain ⟨i, hii, rfl, rfl, hall, hbr⟩ := hrel
            obtain ⟨m, hm⟩ : ∃ m, m = 0 + manyP (ks.take i) := ⟨_, rfl⟩
            have hml : m ≤ 17 := by have := many_le (ks.take i); rw [List.length_take] at this; omega
            rw [← hm]
            by_cases hlt : i < 16
            · have hki : (i : Int) < 16 := by omega
              have hil : i < ks.length := by rw [Hkn.out]; exact hlt
              obtain ⟨bk, ok, rfl, hr⟩ := RowOf.range ndcells_len (hk.below hbr) i hil
              have hIs := (hks _ (List.getElem_mem hil)).kept hbr
              have hIh := ih _ (List.getElem_mem hil)
              have hbk := bulkN_mem (List.getElem_mem hil)
              have hst := many_step ks i hil
              have hrs := rgtL_step (d + 1) ks i hil hall
              have hrn := rgtL_not (d + 1) ks i hil
              obtain ⟨k, hkk⟩ : ∃ k, k = ks[i] := ⟨_, rfl⟩
              rw [← hkk] at hr hIs hIh hbk hst hrs hrn
              have hKl := ndcells_len k
              have hone : ∀ u ∈ ndcells k, u.oneCell' = true := hIs.one
              have hk0 : (ndcells k)[0]? = some (.int .i64 k.kd) := by cases k; rfl
              have c3 := fun (u : World) (hu : Below wr.heap.size wr u) => hIh (d + 1) u (hIs.kept hu) (by omega)
              simp only [Int.natCast_add, Int.cast_ofNat_Int] at c3
              have hwr : IntKind.i64.wrap ((d : Int) + 1) = (d : Int) + 1 := IntWalk.i64_in _ (by omega)
              have hwm : IntKind.i64.wrap ((m : Int) + 1) = (m : Int) + 1 := IntWalk.i64_in _ (by omega)
              obtain ⟨K, hK⟩ : ∃ K, K = ndcells k := ⟨_, rfl⟩
              simp only [← hK] at hr hKl hone hk0 c3
              obtain ⟨kd, hkd⟩ : ∃ x, x = k.kd := ⟨_, rfl⟩
              rw [← hkd] at hst hk0
              obtain ⟨b, hb⟩ : ∃ x, x = rgt (d + 1) k := ⟨_, rfl⟩
              simp only [← hb] at c3
              rw [← hb] at hrs hrn
              have C3 := Lib.hid c3
              have HKl := Lib.hid hKl
              have Hone := Lib.hid hone
              have Hk0 := Lib.hid hk0
              have Hrn := Lib.hid hrn
              have Hst := Lib.hid hst
              have Hrs := Lib.hid hrs
              have Hm := Lib.hid hm
              clear hIs hIh hbk hkk hK hkd hb hKl hone hk0 hrn hst hrs hm c3 hall
              cases b with
              | false =>
                have hRf : R = false := by rw [HR3.out, Hrn.out rfl]; rfl
                subst hRf
                go_wp2_with (first
                  | (refine wpList_loadW (o := ⟨some 39, _, _, _, _, _⟩) 25 (.tmp 38) (by rfl) bk (ok + i * 4) (by rfl) aggNode HKl.out hr (by rfl) ?_; have bA : Below wr.heap.size wr (wr.alloc (.cells #[.int .i64 0, .slice none 0 0, .slice none 0 0, .slice none 0 0] 25)) := (Below.refl _ _).alloc (Nat.le_refl _) _)
                              | ((with_reducible show wpList _ _ _ (⟨none, Op.store _ _ (Operand.tmp 39), _, _, _, _⟩ :: _) _ _); refine wpList_storeA (o := ⟨none, _, _, _, _, _⟩) (by rfl) 25 (.tmp 7) (.tmp 39) (by rfl) wr.heap.size K (by rfl) (by rfl) aggNode (Blk.new wr 25 [.int .i64 0, .slice none 0 0, .slice none 0 0, .slice none 0 0]) HKl.out (by rfl) Hone.out bA (Nat.le_refl _) ?_; intro w5 h7 b5 _; have bb5 := Below.then hbr b5)
                              | (refine wpList_loadA (o := ⟨some 40, _, _, _, _, _⟩) (by rfl) 25 (.tmp 7) (by rfl) wr.heap.size (by rfl) aggNode h7 HKl.out ?_)
                              | (go_at_call 51; (with_reducible refine (C3.out _ b5).mono ?_); rintro e w6 ⟨rfl, b6⟩; have h76 := (((h7.kept b6).cell 0).trans Hk0.out)))
                go_ret
                exact ⟨rfl, Below.then bb5 b6⟩
              | true =>
                have hall' := Hrs.out rfl
                have hst' := Hst.out
                by_cases hz0 : kd = 0
                · subst hz0
                  rw [if_pos rfl] at hst'
                  clear hlt
                  go_wp2_with (first
                    | (refine wpList_loadW (o := ⟨some 39, _, _, _, _, _⟩) 25 (.tmp 38) (by rfl) bk (ok + i * 4) (by rfl) aggNode HKl.out hr (by rfl) ?_; have bA : Below wr.heap.size wr (wr.alloc (.cells #[.int .i64 0, .slice none 0 0, .slice none 0 0, .slice none 0 0] 25)) := (Below.refl _ _).alloc (Nat.le_refl _) _)
                              | ((with_reducible show wpList _ _ _ (⟨none, Op.store _ _ (Operand.tmp 39), _, _, _, _⟩ :: _) _ _); refine wpList_storeA (o := ⟨none, _, _, _, _, _⟩) (by rfl) 25 (.tmp 7) (.tmp 39) (by rfl) wr.heap.size K (by rfl) (by rfl) aggNode (Blk.new wr 25 [.int .i64 0, .slice none 0 0, .slice none 0 0, .slice none 0 0]) HKl.out (by rfl) Hone.out bA (Nat.le_refl _) ?_; intro w5 h7 b5 _; have bb5 := Below.then hbr b5)
                              | (refine wpList_loadA (o := ⟨some 40, _, _, _, _, _⟩) (by rfl) 25 (.tmp 7) (by rfl) wr.heap.size (by rfl) aggNode h7 HKl.out ?_)
                              | (go_at_call 51; (with_reducible refine (C3.out _ b5).mono ?_); rintro e w6 ⟨rfl, b6⟩; have h76 := (((h7.kept b6).cell 0).trans Hk0.out)))
                  go_roundw
                  case rel => exact ⟨i + 1, by omega, by rw [hst', Hm.out]; go_num, by go_num, hall', Below.then bb5 b6⟩
                  case measure => simp [intOf]; omega
                · rw [if_neg hz0] at hst'
                  have hz1 : (kd != 0) = true := by simp; exact hz0
                  have hz2 : (kd == 0) = false := by rw [beq_eq_false_iff_ne]; exact hz0
                  clear hlt
                  go_wp2_with (first
                    | (refine wpList_loadW (o := ⟨some 39, _, _, _, _, _⟩) 25 (.tmp 38) (by rfl) bk (ok + i * 4) (by rfl) aggNode HKl.out hr (by rfl) ?_; have bA : Below wr.heap.size wr (wr.alloc (.cells #[.int .i64 0, .slice none 0 0, .slice none 0 0, .slice none 0 0] 25)) := (Below.refl _ _).alloc (Nat.le_refl _) _)
                              | ((with_reducible show wpList _ _ _ (⟨none, Op.store _ _ (Operand.tmp 39), _, _, _, _⟩ :: _) _ _); refine wpList_storeA (o := ⟨none, _, _, _, _, _⟩) (by rfl) 25 (.tmp 7) (.tmp 39) (by rfl) wr.heap.size K (by rfl) (by rfl) aggNode (Blk.new wr 25 [.int .i64 0, .slice none 0 0, .slice none 0 0, .slice none 0 0]) HKl.out (by rfl) Hone.out bA (Nat.le_refl _) ?_; intro w5 h7 b5 _; have bb5 := Below.then hbr b5)
                              | (refine wpList_loadA (o := ⟨some 40, _, _, _, _, _⟩) (by rfl) 25 (.tmp 7) (by rfl) wr.heap.size (by rfl) aggNode h7 HKl.out ?_)
                              | (go_at_call 51; (with_reducible refine (C3.out _ b5).mono ?_); rintro e w6 ⟨rfl, b6⟩; have h76 := (((h7.kept b6).cell 0).trans Hk0.out)))
                  go_roundw
                  case rel => exact ⟨i + 1, by omega, by rw [hst', ← Nat.add_assoc, ← Hm.out]; go_num, by go_num, hall', Below.then bb5 b6⟩
                  case measure => simp [intOf]; omega
            · obtain rfl : i = 16 := by omega
              have htk : ks.take 16 = ks := by rw [← Hkn.out, List.take_length]
              rw [htk] at hall hm
              have hR4 : R = decide (2 ≤ m) := by rw [HR3.out, hall, hm, ← HMIN.out]; rfl
              have h2i : decide ((2 : Int) ≤ (m : Int)) = decide (2 ≤ m) := by congr 1; rw [eq_iff_iff]; omega
              obtain ⟨b, hb⟩ : ∃ b, b = decide (2 ≤ m) := ⟨_, rfl⟩
              rw [← hb] at h2i hR4
              subst hR4
              clear hb htk hm hall
              go_wp2_with fail
              go_ret
              exact ⟨rfl, hbr⟩
        · rw [he] at c2
          have C2 := Lib.hid c2
          have hv1i : (0 : Int) < (vn : Int) := by omega
          have HMIN := Lib.hid (show (1 : Nat) = min vn 1 from by omega)
          clear c2
          go_enter Try.func90, Try.ntmps90
          go_wp2_with (go_at_call 89; (with_reducible refine (C2.out _).mono ?_); rintro e w3 ⟨rfl, b3⟩; rw [← Hw1.out] at b3; have bb3 := Below.then hbel b3; have z3 := hz.kept b3; have j2 := (z3.cell 2).trans (show _ = some (Value.slice va vn vc) from rfl); have j3 := (z3.cell 3).trans (show _ = some (Value.slice ka 16 kc) from rfl))
          all_goals
            go_loopw [5, 36] (fun mv ix wr => ∃ i : Nat, i ≤ 16 ∧ mv = .int .i64 ((1 + manyP (ks.take i) : Nat) : Int) ∧ ix = .int .i64 (i : Int) ∧ rgtL (d + 1) (ks.take i) = true ∧ Below w.heap.size w wr) (fun _ ix _ => 16 - (intOf ix).toNat)
            case atStart => exact ⟨0, by omega, by first | (simp [manyP]; done) | (simp [manyP]; omega), rfl, rfl, bb3⟩
            case round =>
              obtain ⟨i, hii, rfl, rfl, hall, hbr⟩ := hrel
              obtain ⟨m, hm⟩ : ∃ m, m = 1 + manyP (ks.take i) := ⟨_, rfl⟩
              have hml : m ≤ 17 := by have := many_le (ks.take i); rw [List.length_take] at this; omega
              rw [← hm]
              by_cases hlt : i < 16
              · have hki : (i : Int) < 16 := by omega
                have hil : i < ks.length := by rw [Hkn.out]; exact hlt
                obtain ⟨bk, ok, rfl, hr⟩ := RowOf.range ndcells_len (hk.below hbr) i hil
                have hIs := (hks _ (List.getElem_mem hil)).kept hbr
                have hIh := ih _ (List.getElem_mem hil)
                have hbk := bulkN_mem (List.getElem_mem hil)
                have hst := many_step ks i hil
                have hrs := rgtL_step (d + 1) ks i hil hall
                have hrn := rgtL_not (d + 1) ks i hil
                obtain ⟨k, hkk⟩ : ∃ k, k = ks[i] := ⟨_, rfl⟩
                rw [← hkk] at hr hIs hIh hbk hst hrs hrn
                have hKl := ndcells_len k
                have hone : ∀ u ∈ ndcells k, u.oneCell' = true := hIs.one
                have hk0 : (ndcells k)[0]? = some (.int .i64 k.kd) := by cases k; rfl
                have c3 := fun (u : World) (hu : Below wr.heap.size wr u) => hIh (d + 1) u (hIs.kept hu) (by omega)
                simp only [Int.natCast_add, Int.cast_ofNat_Int] at c3
                have hwr : IntKind.i64.wrap ((d : Int) + 1) = (d : Int) + 1 := IntWalk.i64_in _ (by omega)
                have hwm : IntKind.i64.wrap ((m : Int) + 1) = (m : Int) + 1 := IntWalk.i64_in _ (by omega)
                obtain ⟨K, hK⟩ : ∃ K, K = ndcells k := ⟨_, rfl⟩
                simp only [← hK] at hr hKl hone hk0 c3
                obtain ⟨kd, hkd⟩ : ∃ x, x = k.kd := ⟨_, rfl⟩
                rw [← hkd] at hst hk0
                obtain ⟨b, hb⟩ : ∃ x, x = rgt (d + 1) k := ⟨_, rfl⟩
                simp only [← hb] at c3
                rw [← hb] at hrs hrn
                have C3 := Lib.hid c3
                have HKl := Lib.hid hKl
                have Hone := Lib.hid hone
                have Hk0 := Lib.hid hk0
                have Hrn := Lib.hid hrn
                have Hst := Lib.hid hst
                have Hrs := Lib.hid hrs
                have Hm := Lib.hid hm
                clear hIs hIh hbk hkk hK hkd hb hKl hone hk0 hrn hst hrs hm c3 hall
                cases b with
                | false =>
                  have hRf : R = false := by rw [HR3.out, Hrn.out rfl]; rfl
                  subst hRf
                  go_wp2_with (first
                    | (refine wpList_loadW (o := ⟨some 39, _, _, _, _, _⟩) 25 (.tmp 38) (by rfl) bk (ok + i * 4) (by rfl) aggNode HKl.out hr (by rfl) ?_; have bA : Below wr.heap.size wr (wr.alloc (.cells #[.int .i64 0, .slice none 0 0, .slice none 0 0, .slice none 0 0] 25)) := (Below.refl _ _).alloc (Nat.le_refl _) _)
                                | ((with_reducible show wpList _ _ _ (⟨none, Op.store _ _ (Operand.tmp 39), _, _, _, _⟩ :: _) _ _); refine wpList_storeA (o := ⟨none, _, _, _, _, _⟩) (by rfl) 25 (.tmp 7) (.tmp 39) (by rfl) wr.heap.size K (by rfl) (by rfl) aggNode (Blk.new wr 25 [.int .i64 0, .slice none 0 0, .slice none 0 0, .slice none 0 0]) HKl.out (by rfl) Hone.out bA (Nat.le_refl _) ?_; intro w5 h7 b5 _; have bb5 := Below.then hbr b5)
                                | (refine wpList_loadA (o := ⟨some 40, _, _, _, _, _⟩) (by rfl) 25 (.tmp 7) (by rfl) wr.heap.size (by rfl) aggNode h7 HKl.out ?_)
                                | (go_at_call 51; (with_reducible refine (C3.out _ b5).mono ?_); rintro e w6 ⟨rfl, b6⟩; have h76 := (((h7.kept b6).cell 0).trans Hk0.out)))
                  go_ret
                  exact ⟨rfl, Below.then bb5 b6⟩
                | true =>
                  have hall' := Hrs.out rfl
                  have hst' := Hst.out
                  by_cases hz0 : kd = 0
                  · subst hz0
                    rw [if_pos rfl] at hst'
                    clear hlt
                    go_wp2_with (first
                      | (refine wpList_loadW (o := ⟨some 39, _, _, _, _, _⟩) 25 (.tmp 38) (by rfl) bk (ok + i * 4) (by rfl) aggNode HKl.out hr (by rfl) ?_; have bA : Below wr.heap.size wr (wr.alloc (.cells #[.int .i64 0, .slice none 0 0, .slice none 0 0, .slice none 0 0] 25)) := (Below.refl _ _).alloc (Nat.le_refl _) _)
                                | ((with_reducible show wpList _ _ _ (⟨none, Op.store _ _ (Operand.tmp 39), _, _, _, _⟩ :: _) _ _); refine wpList_storeA (o := ⟨none, _, _, _, _, _⟩) (by rfl) 25 (.tmp 7) (.tmp 39) (by rfl) wr.heap.size K (by rfl) (by rfl) aggNode (Blk.new wr 25 [.int .i64 0, .slice none 0 0, .slice none 0 0, .slice none 0 0]) HKl.out (by rfl) Hone.out bA (Nat.le_refl _) ?_; intro w5 h7 b5 _; have bb5 := Below.then hbr b5)
                                | (refine wpList_loadA (o := ⟨some 40, _, _, _, _, _⟩) (by rfl) 25 (.tmp 7) (by rfl) wr.heap.size (by rfl) aggNode h7 HKl.out ?_)
                                | (go_at_call 51; (with_reducible refine (C3.out _ b5).mono ?_); rintro e w6 ⟨rfl, b6⟩; have h76 := (((h7.kept b6).cell 0).trans Hk0.out)))
                    go_roundw
                    case rel => exact ⟨i + 1, by omega, by rw [hst', Hm.out]; go_num, by go_num, hall', Below.then bb5 b6⟩
                    case measure => simp [intOf]; omega
                  · rw [if_neg hz0] at hst'
                    have hz1 : (kd != 0) = true := by simp; exact hz0
                    have hz2 : (kd == 0) = false := by rw [beq_eq_false_iff_ne]; exact hz0
                    clear hlt
                    go_wp2_with (first
                      | (refine wpList_loadW (o := ⟨some 39, _, _, _, _, _⟩) 25 (.tmp 38) (by rfl) bk (ok + i * 4) (by rfl) aggNode HKl.out hr (by rfl) ?_; have bA : Below wr.heap.size wr (wr.alloc (.cells #[.int .i64 0, .slice none 0 0, .slice none 0 0, .slice none 0 0] 25)) := (Below.refl _ _).alloc (Nat.le_refl _) _)
                                | ((with_reducible show wpList _ _ _ (⟨none, Op.store _ _ (Operand.tmp 39), _, _, _, _⟩ :: _) _ _); refine wpList_storeA (o := ⟨none, _, _, _, _, _⟩) (by rfl) 25 (.tmp 7) (.tmp 39) (by rfl) wr.heap.size K (by rfl) (by rfl) aggNode (Blk.new wr 25 [.int .i64 0, .slice none 0 0, .slice none 0 0, .slice none 0 0]) HKl.out (by rfl) Hone.out bA (Nat.le_refl _) ?_; intro w5 h7 b5 _; have bb5 := Below.then hbr b5)
                                | (refine wpList_loadA (o := ⟨some 40, _, _, _, _, _⟩) (by rfl) 25 (.tmp 7) (by rfl) wr.heap.size (by rfl) aggNode h7 HKl.out ?_)
                                | (go_at_call 51; (with_reducible refine (C3.out _ b5).mono ?_); rintro e w6 ⟨rfl, b6⟩; have h76 := (((h7.kept b6).cell 0).trans Hk0.out)))
                    go_roundw
                    case rel => exact ⟨i + 1, by omega, by rw [hst', ← Nat.add_assoc, ← Hm.out]; go_num, by go_num, hall', Below.then bb5 b6⟩
                    case measure => simp [intOf]; omega
              · obtain rfl : i = 16 := by omega
                have htk : ks.take 16 = ks := by rw [← Hkn.out, List.take_length]
                rw [htk] at hall hm
                have hR4 : R = decide (2 ≤ m) := by rw [HR3.out, hall, hm, ← HMIN.out]; rfl
                have h2i : decide ((2 : Int) ≤ (m : Int)) = decide (2 ≤ m) := by congr 1; rw [eq_iff_iff]; omega
                obtain ⟨b, hb⟩ : ∃ b, b = decide (2 ≤ m) := ⟨_, rfl⟩
                rw [← hb] at h2i hR4
                subst hR4
                clear hb htk hm hall
                go_wp2_with fail
                go_ret
                exact ⟨rfl, hbr⟩
      · have hv1 : 0 < vn := by omega
        have he : endsP d = false := by rw [← Bool.not_eq_true]; exact fun e => hv0 (.inr e)
        have hRf : R = false := by rw [hR2, he]; simp; intro _ _ h; omega
        subst hRf
        rw [he] at c2
        have C2 := Lib.hid c2
        have h1024i : ¬ (1024 : Int) < (vn : Int) := by omega
        have hv1i : (0 : Int) < (vn : Int) := by omega
        clear c2 hR2
        go_enter Try.func90, Try.ntmps90
        go_wp2_with (go_at_call 89; (with_reducible refine (C2.out _).mono ?_); rintro e w3 ⟨rfl, b3⟩; rw [← Hw1.out] at b3; have bb3 := Below.then hbel b3)
        go_ret
        exact ⟨rfl, bb3⟩
    · have hRf : R = false := by rw [hR2, decide_eq_false h1024]; simp
      subst hRf
      have h1024i : (1024 : Int) < (vn : Int) := by omega
      clear hR2
      go_enter Try.func90, Try.ntmps90
      go_wp2_with fail
      rw [← Hw1.out]
      go_ret
      exact ⟨rfl, hbel⟩
  · have hRf : R = false := by rw [hR2, decide_eq_false h16]; simp
    subst hRf
    have h16i : ((kn : Int) == 16) = false := by rw [beq_eq_false_iff_ne]; omega
    clear hR2
    go_enter Try.func90, Try.ntmps90
    go_wp2_with fail
    rw [← Hw1.out]
    go_ret
    exact ⟨rfl, hbel⟩
end
end Go.Proofs.Ytljbbpcnoajfeaa
/- (Node5) tree.right of any node, tree.Right. -/
namespace Go.Proofs.Ytljbbpcnoajfeaa
open Go.RowKit
set_option maxHeartbeats 1000000 in
set_option maxRecDepth 100000 in
theorem right_plain (kd : Int) (pa va ka : Option Addr) (pn pc vn vc kn kc : Nat) (d : Nat) (w : World) (h1 : kd ≠ 1) (h2 : kd ≠ 2) (h3 : kd ≠ 3) :
    Calls Try.prog 51 #[.agg #[.int .i64 kd, .slice pa pn pc, .slice va vn vc, .slice ka kn kc], .int .i64 (d : Int)] w fun e w' => e = .returned (.bool (decide (kd = 0))) ∧ Below w.heap.size w w' := by
  have e1 : (kd == 1) = false := by rw [beq_eq_false_iff_ne]; exact h1
  have e2 : (kd == 2) = false := by rw [beq_eq_false_iff_ne]; exact h2
  have e3 : (kd == 3) = false := by rw [beq_eq_false_iff_ne]; exact h3
  have hbel : Below w.heap.size w (w.alloc (.cells #[.int .i64 kd, .slice pa pn pc, .slice va vn vc, .slice ka kn kc] 25)) := (Below.refl _ _).alloc (Nat.le_refl _) _
  have k0 := ((Blk.new w 25 [.int .i64 kd, .slice pa pn pc, .slice va vn vc, .slice ka kn kc]).cell 0).trans (show _ = some (Value.int .i64 kd) from rfl)
  clear h1 h2 h3
  by_cases h0 : kd = 0
  · subst h0
    go_enter Try.func51, Try.ntmps51
    go_wp2_with fail
    go_ret
    exact ⟨rfl, hbel⟩
  · have e0 : (kd == 0) = false := by rw [beq_eq_false_iff_ne]; exact h0
    rw [decide_eq_false h0]
    clear h0
    go_enter Try.func51, Try.ntmps51
    go_wp2_with fail
    go_ret
    exact ⟨rfl, hbel⟩
set_option maxHeartbeats 1000000 in
set_option maxRecDepth 100000 in
theorem right_any (N : Nat) (hN : N ≤ 100000000000) : ∀ (n : Nat) (t : Nd), SizeOf.sizeOf t ≤ n → RgtC N t
  | 0, .mk kd pv p vv v kv ks, h => by simp at h
  | n + 1, .mk kd pv p vv v kv ks, h => by
    intro d w hI hd
    have hks : ∀ k ∈ ks, RgtC N k := by
      intro k hk
      refine right_any N hN n k ?_
      have := List.sizeOf_lt_of_mem hk
      simp only [Nd.mk.sizeOf_spec] at h
      omega
    obtain ⟨hp, hv, hk, hall⟩ := hI.inv
    obtain ⟨pa, pc, rfl, _, _⟩ := hp.form
    obtain ⟨va, vc, rfl, _, _⟩ := hv.form
    obtain ⟨ka, kc, rfl, _, _⟩ := hk.form
    simp only [bulkN] at hd
    by_cases h1 : kd = 1
    · subst h1
      exact right_leaf N hN pa va ka p.length pc v.length vc ks.length kc p v ks rfl rfl d w hp (by omega)
    · by_cases h2 : kd = 2
      · subst h2
        exact right_road N hN pa va ka p.length pc v.length vc ks.length kc p v ks rfl rfl d w hp hk hall hks (by omega)
      · by_cases h3 : kd = 3
        · subst h3
          have hbel : Below w.heap.size w (w.alloc (.cells #[.int .i64 3, .slice pa p.length pc, .slice va v.length vc, .slice ka ks.length kc] 25)) := (Below.refl _ _).alloc (Nat.le_refl _) _
          have hz := Blk.new w 25 [.int .i64 3, .slice pa p.length pc, .slice va v.length vc, .slice ka ks.length kc]
          have k0 := (hz.cell 0).trans (show _ = some (Value.int .i64 3) from rfl)
          have c1 := rfork_any N hN pa va ka p.length pc v.length vc ks.length kc p v ks rfl rfl d (w.alloc (.cells #[.int .i64 3, .slice pa p.length pc, .slice va v.length vc, .slice ka ks.length kc] 25)) (hk.below hbel) (fun k hk => (hall k hk).kept hbel) hks (by omega)
          obtain ⟨R, hR⟩ : ∃ R, R = rgt d (.mk 3 (.slice pa p.length pc) p (.slice va v.length vc) v (.slice ka ks.length kc) ks) := ⟨_, rfl⟩
          rw [← hR] at c1 ⊢
          have r1 := hz.all0
          have C1 := Lib.hid c1
          clear c1 hR hks hall h hd
          show Calls Try.prog 51 #[.agg #[.int .i64 3, .slice pa p.length pc, .slice va v.length vc, .slice ka ks.length kc], .int .i64 (d : Int)] w _
          go_enter Try.func51, Try.ntmps51
          go_wp2_with (first
            | (refine wpList_loadW (o := ⟨some 73, _, _, _, _, _⟩) 25 (.tmp 2) (by rfl) w.heap.size 0 (by rfl) aggNode (by rfl) r1 (by rfl) ?_)
            | (go_at_call 90; (with_reducible refine C1.out.mono ?_); rintro e w2 ⟨rfl, b2⟩))
          go_ret
          exact ⟨rfl, Below.then hbel b2⟩
        · have hR : rgt d (.mk kd (.slice pa p.length pc) p (.slice va v.length vc) v (.slice ka ks.length kc) ks) = decide (kd = 0) := by
            unfold rgt
            rw [if_neg h1, if_neg h2, if_neg h3]
            split
            · rename_i h0; exact (decide_eq_true h0).symm
            · rename_i h0; exact (decide_eq_false h0).symm
          rw [hR]
          exact right_plain kd pa va ka p.length pc v.length vc ks.length kc d w h1 h2 h3
set_option maxHeartbeats 1000000 in
set_option maxRecDepth 100000 in
theorem tree_right_any (t : Nd) (w : World) (h : IsNd w t) (hb : bulkN t ≤ 100000000000) : Calls Try.prog 21 #[.agg (ndcells t).toArray] w fun e w' => e = .returned (.bool (rgt 0 t)) ∧ Below w.heap.size w w' := by
  obtain ⟨K, hK⟩ : ∃ K, K = ndcells t := ⟨_, rfl⟩
  have hKl : K.length = 4 := by rw [hK]; exact ndcells_len t
  have hbel : Below w.heap.size w (w.alloc (.cells K.toArray 25)) := (Below.refl _ _).alloc (Nat.le_refl _) _
  have r1 := (Blk.new w 25 K).all0
  have c1 : Calls Try.prog 51 #[.agg (ndcells t).toArray, .int .i64 0] (w.alloc (.cells K.toArray 25)) (fun e w' => e = .returned (.bool (rgt 0 t)) ∧ Below (w.alloc (.cells K.toArray 25)).heap.size (w.alloc (.cells K.toArray 25)) w') := right_any 100000000000 (Nat.le_refl _) (SizeOf.sizeOf t) t (Nat.le_refl _) 0 (w.alloc (.cells K.toArray 25)) (h.kept hbel) (by omega)
  simp only [← hK] at c1 ⊢
  obtain ⟨R, hR⟩ : ∃ R, R = rgt 0 t := ⟨_, rfl⟩
  rw [← hR] at c1 ⊢
  have C1 := Lib.hid c1
  clear c1 hR hK h hb
  go_enter Try.func21, Try.ntmps21
  go_wp2_with (first
    | (refine wpList_loadW (o := ⟨some 3, _, _, _, _, _⟩) 25 (.tmp 1) (by rfl) w.heap.size 0 (by rfl) aggNode hKl r1 (by rfl) ?_)
    | (go_at_call 51; (with_reducible refine C1.out.mono ?_); rintro e w2 ⟨rfl, b2⟩))
  go_ret
  exact ⟨rfl, Below.then hbel b2⟩
end Go.Proofs.Ytljbbpcnoajfeaa
