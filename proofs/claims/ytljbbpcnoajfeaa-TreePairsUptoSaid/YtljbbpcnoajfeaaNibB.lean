/- What nib.Tag and Untag come to. No program in sight. | nib.Tag and the reference's NTag. | The reference's NTag; nib.Untag. | The reference's NUntag. -/
import Derived.Test.YtljbbpcnoajfeaaNibA
/- (Nib5) What nib.Tag and Untag come to. No program in sight. -/
set_option linter.unusedSimpArgs false
set_option linter.unusedVariables false
namespace Go.Proofs.Ytljbbpcnoajfeaa
open Go.RowKit
/-- the first half of a tag -/
def tagN (n : Nat) (leaf : Bool) : Nat := n % 2 + 2 * leaf.toNat
def tagF (n : Nat) (leaf : Bool) : UInt8 := UInt8.ofNat (tagN n leaf)
theorem tagN_lt (n : Nat) (leaf : Bool) : tagN n leaf ≤ 3 := by unfold tagN; cases leaf <;> simp <;> omega
theorem tagF_nat (n : Nat) (leaf : Bool) : (tagF n leaf).toNat = tagN n leaf := by
  have := tagN_lt n leaf
  unfold tagF; rw [UInt8.toNat_ofNat']; omega
/-- what stands ahead of the path -/
def tagH (n : Nat) (leaf : Bool) : List UInt8 := if n % 2 = 1 then [tagF n leaf] else [tagF n leaf, 0]
def tagL (p : List UInt8) (leaf : Bool) : List UInt8 := tagH p.length leaf ++ p
theorem tagH_odd {n : Nat} {leaf : Bool} (h : n % 2 = 1) : tagH n leaf = [tagF n leaf] := by unfold tagH; rw [if_pos h]
theorem tagH_even {n : Nat} {leaf : Bool} (h : ¬ n % 2 = 1) : tagH n leaf = [tagF n leaf, 0] := by unfold tagH; rw [if_neg h]
theorem wrong_app (a b : List UInt8) : wrongB (a ++ b) = (wrongB a || wrongB b) := by unfold wrongB; rw [List.any_append]
theorem tagH_right (n : Nat) (leaf : Bool) : wrongB (tagH n leaf) = false := by
  have h := tagN_lt n leaf
  have h2 := tagF_nat n leaf
  unfold tagH wrongB
  split <;> simp <;> omega
theorem tagL_ok (p : List UInt8) (leaf : Bool) : joinOk (tagL p leaf) = !wrongB p := by
  unfold joinOk tagL
  rw [wrong_app, tagH_right, Bool.false_or]
  have : (tagH p.length leaf ++ p).length % 2 = 0 := by
    unfold tagH
    split <;> simp <;> omega
  rw [this]; rfl
theorem tagL_len (p : List UInt8) (leaf : Bool) : (tagL p leaf).length ≤ p.length + 2 := by
  unfold tagL tagH
  split <;> simp <;> omega
theorem join_halves (b : List UInt8) : joinL (halvesL b) = b := by
  induction b with
  | nil => rfl
  | cons x b ih =>
    have e : halvesL (x :: b) = x / 16 :: x % 16 :: halvesL b := by simp [halvesL, halfB]
    rw [e, joinL, ih]
    congr 1
    apply UInt8.toNat_inj.1
    have := x.toNat_lt
    rw [UInt8.toNat_add, UInt8.toNat_mul, UInt8.toNat_div, UInt8.toNat_mod, show (16 : UInt8).toNat = 16 from rfl]; omega
/-- does the path behind 'k' halves, tagged, come to b? -/
def hits (b : List UInt8) (k : Nat) (leaf : Bool) : Bool := joinR (tagL ((halvesL b).drop k) leaf) == b
theorem wrong_drop (l : List UInt8) (k : Nat) (h : wrongB l = false) : wrongB (l.drop k) = false := by
  unfold wrongB at *
  rw [List.any_eq_false] at *
  exact fun x hx => h x (List.mem_of_mem_drop hx)
theorem tag_part_ok (b : List UInt8) (k : Nat) (leaf : Bool) : joinOk (tagL ((halvesL b).drop k) leaf) = true := by
  rw [tagL_ok, wrong_drop _ _ (halves_wrong b)]; rfl
theorem hits_iff (b : List UInt8) (k : Nat) (leaf : Bool) : hits b k leaf = true ↔ tagL ((halvesL b).drop k) leaf = halvesL b := by
  have hok := tag_part_ok b k leaf
  unfold hits
  rw [(join_yes hok).2, beq_iff_eq]
  constructor
  · intro h
    rw [← halves_join _ hok, h]
  · intro h
    rw [h, join_halves]
/-- the two halves at the head -/
theorem halves_two (b : List UInt8) (h : b ≠ []) : ∃ x y r, halvesL b = x :: y :: r ∧ r.length % 2 = 0 ∧ x.toNat ≤ 15 ∧ y.toNat ≤ 15 := by
  match b, h with
  | z :: b, _ => exact ⟨z / 16, z % 16, halvesL b, by simp [halvesL, halfB], by rw [halves_len]; omega, (half_le z).1, (half_le z).2⟩
theorem hits_one (b : List UInt8) (leaf : Bool) (x y : UInt8) (r : List UInt8) (h : halvesL b = x :: y :: r) (hr : r.length % 2 = 0) : hits b 1 leaf = decide (x.toNat = 1 + 2 * leaf.toNat) := by
  rw [Bool.eq_iff_iff, hits_iff, h, decide_eq_true_eq]
  unfold tagL
  have hl : ((x :: y :: r).drop 1).length % 2 = 1 := by simp; omega
  rw [tagH_odd hl]
  have hn := tagF_nat ((x :: y :: r).drop 1).length leaf
  unfold tagN at hn
  rw [hl] at hn
  constructor
  · intro e
    simp only [List.cons_append, List.nil_append, List.drop_succ_cons, List.drop_zero, List.cons.injEq, and_true] at e
    rw [← e]; simpa using hn
  · intro e
    have : tagF ((x :: y :: r).drop 1).length leaf = x := UInt8.toNat_inj.1 (by rw [hn, e])
    rw [this]; rfl
theorem hits_two (b : List UInt8) (leaf : Bool) (x y : UInt8) (r : List UInt8) (h : halvesL b = x :: y :: r) (hr : r.length % 2 = 0) : hits b 2 leaf = decide (x.toNat = 2 * leaf.toNat ∧ y.toNat = 0) := by
  rw [Bool.eq_iff_iff, hits_iff, h, decide_eq_true_eq]
  unfold tagL
  have hl : ¬ ((x :: y :: r).drop 2).length % 2 = 1 := by simp; omega
  rw [tagH_even hl]
  have hn := tagF_nat ((x :: y :: r).drop 2).length leaf
  unfold tagN at hn
  rw [show ((x :: y :: r).drop 2).length % 2 = 0 from by omega] at hn
  constructor
  · intro e
    simp only [List.cons_append, List.nil_append, List.drop_succ_cons, List.drop_zero, List.cons.injEq, and_true] at e
    obtain ⟨e1, e2⟩ := e
    refine ⟨by rw [← e1]; simpa using hn, by rw [← e2]; rfl⟩
  · rintro ⟨e1, e2⟩
    have h1 : tagF ((x :: y :: r).drop 2).length leaf = x := UInt8.toNat_inj.1 (by rw [hn, e1]; omega)
    have h2 : (0 : UInt8) = y := UInt8.toNat_inj.1 (by rw [e2]; rfl)
    rw [h1, h2]; rfl
/-- what both come to: where the path begins (0: there is none), and whether it is a leaf's -/
def unAt (b : List UInt8) : Nat := match halvesL b with
  | x :: y :: _ => if 3 < x.toNat then 0 else if x.toNat % 2 = 1 then 1 else if y.toNat = 0 then 2 else 0
  | _ => 0
def unLeaf (b : List UInt8) : Bool := match halvesL b with
  | x :: _ => unAt b != 0 && decide (2 ≤ x.toNat)
  | _ => false
def unP (b : List UInt8) : List UInt8 := if unAt b = 0 then [] else (halvesL b).drop (unAt b)
def unE (b : List UInt8) : Int := if unAt b = 0 then 1 else 0
theorem un_found (b : List UInt8) (k : Nat) (leaf : Bool) (hk : k = 1 ∨ k = 2) (hb : b ≠ []) (h : hits b k leaf = true) : unAt b = k ∧ unLeaf b = leaf ∧ unP b = (halvesL b).drop k ∧ unE b = 0 := by
  obtain ⟨x, y, r, e, hr, hx, hy⟩ := halves_two b hb
  have h1 : unAt b = k ∧ unLeaf b = leaf := by
    unfold unLeaf unAt
    rw [e]
    rcases hk with rfl | rfl
    · rw [hits_one b leaf x y r e hr, decide_eq_true_eq] at h
      cases leaf <;> simp at h <;> simp [h]
    · rw [hits_two b leaf x y r e hr, decide_eq_true_eq] at h
      obtain ⟨h, h2⟩ := h
      cases leaf <;> simp at h <;> simp [h, h2]
  refine ⟨h1.1, h1.2, ?_, ?_⟩
  · unfold unP; rw [h1.1, if_neg (by omega)]
  · unfold unE; rw [h1.1, if_neg (by omega)]
theorem un_none (b : List UInt8) (h : b = [] ∨ (∀ k leaf, (k = 1 ∨ k = 2) → hits b k leaf = false)) : unAt b = 0 ∧ unLeaf b = false ∧ unP b = [] ∧ unE b = 1 := by
  have h0 : unAt b = 0 := by
    rcases h with rfl | h
    · rfl
    · by_cases hb : b = []
      · subst hb; rfl
      · obtain ⟨x, y, r, e, hr, hx, hy⟩ := halves_two b hb
        have a1 := h 1 false (.inl rfl)
        have a2 := h 1 true (.inl rfl)
        have a3 := h 2 false (.inr rfl)
        have a4 := h 2 true (.inr rfl)
        rw [hits_one b _ x y r e hr, decide_eq_false_iff_not] at a1 a2
        rw [hits_two b _ x y r e hr, decide_eq_false_iff_not] at a3 a4
        simp at a1 a2 a3 a4
        unfold unAt
        rw [e]
        simp only
        split
        · rfl
        · split
          · omega
          · split
            · omega
            · rfl
  refine ⟨h0, ?_, ?_, ?_⟩
  · unfold unLeaf; rw [h0]; split <;> rfl
  · unfold unP; rw [if_pos h0]
  · unfold unE; rw [if_pos h0]
end Go.Proofs.Ytljbbpcnoajfeaa
/- (Nib6) nib.Tag and the reference's NTag. -/
namespace Go.Proofs.Ytljbbpcnoajfeaa
open Go.RowKit
theorem tag_no {p : List UInt8} {leaf : Bool} (h : wrongB p = true) : joinE (tagL p leaf) = 1 ∧ joinR (tagL p leaf) = [] := join_no (by rw [tagL_ok, h]; rfl)
theorem tagL_odd {p : List UInt8} {leaf : Bool} (h : p.length % 2 = 1) : tagL p leaf = [if leaf then 3 else 1] ++ p := by
  unfold tagL
  rw [tagH_odd h]
  congr 2
  apply UInt8.toNat_inj.1
  rw [tagF_nat]; unfold tagN; rw [h]; cases leaf <;> rfl
theorem tagL_even {p : List UInt8} {leaf : Bool} (h : p.length % 2 = 0) : tagL p leaf = [if leaf then 2 else 0, 0] ++ p := by
  unfold tagL
  rw [tagH_even (by omega)]
  congr 2
  apply UInt8.toNat_inj.1
  rw [tagF_nat]; unfold tagN; rw [h]; cases leaf <;> rfl
theorem join_l (a : Option Addr) (n c : Nat) (l : List UInt8) (hn : l.length = n) (w : World) (h : Bytes w (.slice a n c) l) (hl : n ≤ 140737488355328) :
    Calls Try.prog 24 #[.slice a n c] w fun e w' => ∃ v, e = .returned (.tuple #[v, .int .i64 (joinE l)]) ∧ Bytes w' v (joinR l) ∧ Below w.heap.size w w' := by
  subst hn
  exact (join_any a c l w h hl).mono fun e w' ⟨v, h1, h2, h3⟩ => ⟨v, h1, h2.row, h3⟩
theorem njoin_l (a : Option Addr) (n c : Nat) (l : List UInt8) (hn : l.length = n) (w : World) (h : Bytes w (.slice a n c) l) (hl : n ≤ 140737488355328) :
    Calls Try.prog 28 #[.slice a n c] w fun e w' => ∃ v, e = .returned (.tuple #[v, .int .i64 (joinE l)]) ∧ Bytes w' v (joinR l) ∧ Below w.heap.size w w' := by
  subst hn
  exact (njoin_any a c l w h hl).mono fun e w' ⟨v, h1, h2, h3⟩ => ⟨v, h1, h2.row, h3⟩
theorem wrong_l (a : Option Addr) (n c : Nat) (l : List UInt8) (b : Bool) (hn : l.length = n) (hb : wrongB l = b) (w : World) (h : Bytes w (.slice a n c) l) :
    Calls Try.prog 54 #[.slice a n c] w fun e w' => e = .returned (.bool b) ∧ w = w' := by
  subst hn; subst hb; exact wrong_any a c l w h
end Go.Proofs.Ytljbbpcnoajfeaa
/- (Nib7) The reference's NTag; nib.Untag. -/
namespace Go.Proofs.Ytljbbpcnoajfeaa
open Go.RowKit
theorem nhalves_l (a : Option Addr) (n c m : Nat) (l : List UInt8) (hn : l.length = n) (hm : m = 2 * n) (w : World) (h : Bytes w (.slice a n c) l) (hl : 2 * n ≤ 140737488355328) :
    Calls Try.prog 57 #[.slice a n c] w fun e w' => ∃ a' c', e = .returned (.slice a' m c') ∧ Bytes w' (.slice a' m c') (halvesL l) ∧ Below w.heap.size w w' := by
  subst hn; subst hm
  refine (nhalves_any a c l w h hl).mono ?_
  rintro e w' ⟨v, rfl, h2, h3⟩
  obtain ⟨a', c', rfl, _⟩ := h2.form' (2 * l.length) (halves_len l)
  exact ⟨a', c', rfl, h2.row, h3⟩
theorem u8_four (x : UInt8) (h : ¬ 3 < x.toNat) : x = 0 ∨ x = 1 ∨ x = 2 ∨ x = 3 := by
  rcases (show x.toNat = 0 ∨ x.toNat = 1 ∨ x.toNat = 2 ∨ x.toNat = 3 from by omega) with h | h | h | h
  · exact .inl (UInt8.toNat_inj.1 h)
  · exact .inr (.inl (UInt8.toNat_inj.1 h))
  · exact .inr (.inr (.inl (UInt8.toNat_inj.1 h)))
  · exact .inr (.inr (.inr (UInt8.toNat_inj.1 h)))
theorem un_at (b : List UInt8) (x y : UInt8) (r : List UInt8) (h : halvesL b = x :: y :: r) (k : Nat) (leaf : Bool)
    (hk : k = if 3 < x.toNat then 0 else if x.toNat % 2 = 1 then 1 else if y.toNat = 0 then 2 else 0) (hf : leaf = (k != 0 && decide (2 ≤ x.toNat))) :
    unLeaf b = leaf ∧ unP b = (if k = 0 then [] else (halvesL b).drop k) ∧ unE b = (if k = 0 then 1 else 0) := by
  have h1 : unAt b = k := by rw [hk]; unfold unAt; rw [h]
  refine ⟨?_, by unfold unP; rw [h1], by unfold unE; rw [h1]⟩
  rw [hf]; unfold unLeaf; rw [h1, h]
end Go.Proofs.Ytljbbpcnoajfeaa
/- (Nib8) The reference's NUntag. -/
namespace Go.Proofs.Ytljbbpcnoajfeaa
open Go.RowKit
theorem str_conv {w : World} {v : Value} {l : List UInt8} (h : Bytes w v l) : (convert 22 9 v).run Try.prog w = .ok (str l) w := run_str elU8.ht (by kernel_rfl) (by kernel_rfl) h
end Go.Proofs.Ytljbbpcnoajfeaa
