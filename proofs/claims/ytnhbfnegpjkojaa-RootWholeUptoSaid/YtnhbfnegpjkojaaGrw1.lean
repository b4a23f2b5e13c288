/- Nodes of a call's own; sixteen of them in a row; contracts' parts for grown. -/
import Derived.Test.YtnhbfnegpjkojaaRts4
import Derived.Test.YtnhbfnegpjkojaaTree4
import Derived.Test.YtnhbfnegpjkojaaSumA
set_option linter.unusedSimpArgs false
set_option linter.unusedVariables false
namespace Go.Proofs.Ytnhbfnegpjkojaa
open Go.RowKit
/-- bytes that lie in memory made behind 'B' -/
def TxO (B : Nat) (t : List UInt8) : Ty := fun v w => Bytes w v t ∧ ∀ k, v.ownBlock = some k → B ≤ k
theorem TxO.mono (B : Nat) (t : List UInt8) : Mono (TxO B t) := fun _ _ _ ⟨h1, h2⟩ hb => ⟨RowOf.kept h1 hb, h2⟩
theorem RowOf.offV {α : Type} {f : α → List Value} {size : Nat} {w w' : World} {v : Value} {g : Nat} {l : List α} (h : RowOf f size w v l) (hg : w.grownBy w' (some g)) (hne : ∀ x, v.ownBlock = some x → x ≠ g) : RowOf f size w' v l := by
  obtain ⟨a, c, rfl, _⟩ := h.form
  cases a with
  | none =>
    obtain ⟨h0, a, c', hv, h1, h2, h3⟩ := h
    simp only [Value.slice.injEq] at hv
    obtain ⟨rfl, _, rfl⟩ := hv
    refine ⟨h0, none, _, rfl, h1, h2, .inl ?_⟩
    rcases h3 with h3 | ⟨_, _, _, he, _⟩
    · exact h3
    · simp at he
  | some p =>
    obtain ⟨b, off, s⟩ := p
    exact h.grownNe hg (hne b rfl)
inductive OwnNd (w : World) (B : Nat) : Nd → Prop where
  | mk (kd : Int) (pv : Value) (p : List UInt8) (vv : Value) (v : List UInt8) (kv : Value) (ks : List Nd) (hp : Bytes w pv p) (op : ∀ k, pv.ownBlock = some k → B ≤ k) (hv : Bytes w vv v) (ov : ∀ k, vv.ownBlock = some k → B ≤ k)
      (hk : RowOf ndcells 4 w kv ks) (ok : ∀ k, kv.ownBlock = some k → B ≤ k) (h : ∀ k ∈ ks, OwnNd w B k) : OwnNd w B (.mk kd pv p vv v kv ks)
theorem OwnNd.is {w : World} {B : Nat} {x : Nd} (h : OwnNd w B x) : IsNd w x := by
  induction h with
  | mk kd pv p vv v kv ks hp _ hv _ hk _ _ ih => exact .mk kd pv p vv v kv ks hp hv hk ih
theorem OwnNd.kept {w w' : World} {B : Nat} {x : Nd} (h : OwnNd w B x) (hb : Below w.heap.size w w') : OwnNd w' B x := by
  induction h with
  | mk kd pv p vv v kv ks hp op hv ov hk ok _ ih => exact .mk kd pv p vv v kv ks (hp.below hb) op (hv.below hb) ov (hk.below hb) ok ih
theorem OwnNd.lower {w : World} {B B' : Nat} {x : Nd} (h : OwnNd w B x) (hb : B' ≤ B) : OwnNd w B' x := by
  induction h with
  | mk kd pv p vv v kv ks hp op hv ov hk ok _ ih => exact .mk kd pv p vv v kv ks hp (fun k e => Nat.le_trans hb (op k e)) hv (fun k e => Nat.le_trans hb (ov k e)) hk (fun k e => Nat.le_trans hb (ok k e)) ih
theorem OwnNd.off {w w' : World} {B g : Nat} {x : Nd} (h : OwnNd w B x) (hg : w.grownBy w' (some g)) (hlt : g < B) : OwnNd w' B x := by
  induction h with
  | mk kd pv p vv v kv ks hp op hv ov hk ok _ ih => exact .mk kd pv p vv v kv ks (hp.offV hg (fun k e => by have := op k e; omega)) op (hv.offV hg (fun k e => by have := ov k e; omega)) ov (hk.offV hg (fun k e => by have := ok k e; omega)) ok ih
def zN : Nd := .mk 0 (.slice none 0 0) [] (.slice none 0 0) [] (.slice none 0 0) []
theorem OwnNd.zero (w : World) (B : Nat) : OwnNd w B zN := .mk 0 _ [] _ [] _ [] (RowOf.nil b8 1 w) (by intro k e; cases e) (RowOf.nil b8 1 w) (by intro k e; cases e) (RowOf.nil ndcells 4 w) (by intro k e; cases e) (by simp)
mutual
def erN : Nd → Pn
  | .mk kd _ p _ v _ ks => .mk kd p v (erNL ks)
def erNL : List Nd → List Pn
  | [] => []
  | k :: ks => erN k :: erNL ks
end
theorem erNL_map (ks : List Nd) : erNL ks = ks.map erN := by
  induction ks with
  | nil => rfl
  | cons k ks ih => simp [erNL, ih]
/-- a node as a value -/
def NdT (B : Nat) (x : Pn) : Ty := fun v w => ∃ t : Nd, v = .agg (ndcells t).toArray ∧ OwnNd w B t ∧ erN t = x
theorem NdT.mono (B : Nat) (x : Pn) : Mono (NdT B x) := fun _ _ _ ⟨t, h, h2, h3⟩ hb => ⟨t, h, h2.kept hb, h3⟩
/-- a list of one node -/
def NdT1 (B : Nat) (x : Pn) : Ty := fun v w => ∃ (g : Nat) (t : Nd), v = .slice (some ⟨g, 0, none⟩) 1 1 ∧ B ≤ g ∧ RowOf ndcells 4 w v [t] ∧ OwnNd w B t ∧ erN t = x
theorem NdT1.mono (B : Nat) (x : Pn) : Mono (NdT1 B x) := fun _ _ _ ⟨g, t, h, h1, h2, h3, h4⟩ hb => ⟨g, t, h, h1, h2.below hb, h3.kept hb, h4⟩
/-- '[]byte(s)' -/
theorem run_bytes_of (l : List UInt8) (u : World) : (convert 9 22 (.string ⟨l.toArray⟩)).run Try.prog u = .ok (.slice (some ⟨u.heap.size, 0, none⟩) l.length (grownCap u l.length 0 5)) (Lib.bytesWorld u 5 ⟨l.toArray⟩) := by
  have := Lib.run_convert_string_bytes (P := Try.prog) u 9 22 5 ⟨l.toArray⟩ (show Try.prog.underlying 9 = some .string by kernel_rfl) elU8.ht (show Try.prog.underlying 5 = some (.int .u8) by kernel_rfl)
  simpa [ByteArray.size] using this
theorem bytes_own (l : List UInt8) (hl : l.length ≤ 1000000000) (B : Nat) (u : World) (hB : B ≤ u.heap.size) : TxO B l (.slice (some ⟨u.heap.size, 0, none⟩) l.length (grownCap u l.length 0 5)) (Lib.bytesWorld u 5 ⟨l.toArray⟩) ∧ Below u.heap.size u (Lib.bytesWorld u 5 ⟨l.toArray⟩) := by
  have := bytes_of u 5 l (by unfold maxLen; omega)
  exact ⟨⟨this.1, fun k e => by cases e; exact hB⟩, this.2⟩
theorem wpList_makeNd {w : World} {ops : Array Oper} {rest : List Oper} {o : Oper} {a : Act} {Q : Exit → Act → World → Prop} (hg : o.guard = none) (l c : Operand) (hop : o.op = Op.makeSlice 23 l c)
    (hl : a.eval l = .int .i64 16) (hc : a.eval c = .int .i64 16) {B : Nat} {w0 : World} (hbel : Below B w0 w) (hB : B ≤ w.heap.size)
    (hK : ∀ w', Blk 25 w' w.heap.size ((List.replicate 16 zN).flatMap ndcells) → Below B w0 w' → Below w.heap.size w w' → wpList Try.prog ops Q rest (a.put o.dst (.slice (some ⟨w.heap.size, 0, none⟩) 16 16)) w') :
    wpList Try.prog ops Q (o :: rest) a w := by
  obtain ⟨i, hi, hz, hsi, hby⟩ := elNode.info
  refine wpList_make_full w hg l c _ hop B 25 i _ 4 elNode.ht hi hz hsi .i64 .i64 16 16 16 hl hc rfl rfl (by rw [hby]; omega) (by unfold maxLen; omega) hB fun w' h1 h2 => ?_
  have hcs : (madeCells (Value.agg #[.int .i64 0, .slice none 0 0, .slice none 0 0, .slice none 0 0]).cells (16 * 4)).toList = (List.replicate 16 zN).flatMap ndcells := by
    unfold madeCells
    rw [Array.toList_map, Array.toList_range]
    rfl
  have hblk : Blk 25 w' w.heap.size ((List.replicate 16 zN).flatMap ndcells) := by
    rw [← hcs]
    rcases h1.2 with ⟨h', _⟩ | ⟨g', cap', cur, h', _, hgg, _, _, hcs', htake⟩
    · simp at h'
    · simp only [Value.slice.injEq, Option.some.injEq, Addr.mk.injEq, and_true, true_and] at h'
      obtain ⟨rfl, rfl⟩ := h'
      have : cur.toList = (madeCells (Value.agg #[.int .i64 0, .slice none 0 0, .slice none 0 0, .slice none 0 0]).cells (16 * 4)).toList := by
        rw [← htake]; exact (List.take_of_length_le (by simp [hcs'])).symm
      unfold Blk; rw [← this]; simpa using hgg
  exact hK w' hblk (hbel.grown h2 hB (fun k hk => by cases hk)) ((Below.refl w.heap.size w).grown h2 (Nat.le_refl _) (fun k hk => by cases hk))
theorem flat_nd (l : List Nd) : (l.flatMap ndcells).length = l.length * 4 := flat_len ndcells_len l
theorem sets_nd (l : List Nd) (i : Nat) (hi : i < l.length) (t : Nd) : setsL (l.flatMap ndcells) (i * 4) (ndcells t) = (l.set i t).flatMap ndcells := by
  have h1 : l = l.take i ++ (l[i] :: l.drop (i + 1)) := by rw [List.getElem_cons_drop, List.take_append_drop]
  have h2 : l.set i t = l.take i ++ (t :: l.drop (i + 1)) := by rw [List.set_eq_take_append_cons_drop, if_pos hi]
  rw [h2]
  have h3 : l.flatMap ndcells = (l.take i).flatMap ndcells ++ (ndcells l[i] ++ (l.drop (i + 1)).flatMap ndcells) := by
    conv => lhs; rw [h1]
    rw [List.flatMap_append, List.flatMap_cons]
  rw [h3, List.flatMap_append, List.flatMap_cons]
  have h4 : i * 4 = ((l.take i).flatMap ndcells).length := by rw [flat_nd, List.length_take]; omega
  rw [h4]
  exact setsL_app (ndcells l[i]) (ndcells t) (by rw [ndcells_len, ndcells_len]) _ _
end Go.Proofs.Ytnhbfnegpjkojaa
