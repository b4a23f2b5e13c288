/- Items as data: what they are written as. -/
import Derived.Test.YtohenjgegkgncaaEnc1
import Derived.Test.YtohenjgegkgncaaAppT
set_option linter.unusedSimpArgs false
set_option linter.unusedVariables false
namespace Go.Proofs.Ytohenjgegkgncaa
open Go.RowKit
/-- an item: is it a list? its text's value, its text; its kids' value, its kids -/
inductive Itm where
  | mk (l : Bool) (tv : Value) (t : List UInt8) (kv : Value) (ks : List Itm)
def icells : Itm → List Value
  | .mk l tv _ kv _ => [.bool l, tv, kv]
theorem aggItem : Agg Try.prog 25 3 := ⟨_, Try.underlying25, rfl, by kernel_rfl⟩
theorem icells_len (x : Itm) : (icells x).length = 3 := by cases x; rfl
inductive IsItm (w : World) : Itm → Prop where
  | mk (l : Bool) (tv : Value) (t : List UInt8) (kv : Value) (ks : List Itm) (ht : Bytes w tv t) (hk : RowOf icells 3 w kv ks) (h : ∀ k ∈ ks, IsItm w k) : IsItm w (.mk l tv t kv ks)
theorem IsItm.kept {w w' : World} {x : Itm} (h : IsItm w x) (hb : Below w.heap.size w w') : IsItm w' x := by
  induction h with
  | mk l tv t kv ks ht hk _ ih => exact .mk l tv t kv ks (ht.kept hb) (hk.kept hb) ih
theorem IsItm.inv {w : World} {l : Bool} {tv : Value} {t : List UInt8} {kv : Value} {ks : List Itm} (h : IsItm w (.mk l tv t kv ks)) : Bytes w tv t ∧ RowOf icells 3 w kv ks ∧ ∀ k ∈ ks, IsItm w k := by
  cases h with
  | mk _ _ _ _ _ ht hk h => exact ⟨ht, hk, h⟩
/-- a text's bytes -/
def textB (t : List UInt8) : List UInt8 := if t.length = 1 ∧ (t[0]?.getD 0).toNat < 128 then t else headB 128 t.length ++ t
mutual
def encI : Itm → List UInt8
  | .mk l _ t _ ks => if l = true then headB 192 (encL ks).length ++ encL ks else textB t
def encL : List Itm → List UInt8
  | [] => []
  | k :: ks => encI k ++ encL ks
end
mutual
def bulkI : Itm → Nat
  | .mk _ _ t _ ks => 1 + t.length + bulkL ks
def bulkL : List Itm → Nat
  | [] => 0
  | k :: ks => bulkI k + bulkL ks
end
theorem encL_app (l m : List Itm) : encL (l ++ m) = encL l ++ encL m := by
  induction l with
  | nil => simp [encL]
  | cons x l ih => simp [encL, ih]
theorem encL_snoc (l : List Itm) (k : Itm) : encL (l ++ [k]) = encL l ++ encI k := by rw [encL_app]; simp [encL]
theorem bulk_mem {k : Itm} : ∀ {ks : List Itm}, k ∈ ks → bulkI k ≤ bulkL ks
  | x :: ks, h => by
    unfold bulkL
    rcases List.mem_cons.1 h with rfl | h
    · omega
    · have := bulk_mem h; omega
theorem bulk_pos (x : Itm) : 1 ≤ bulkI x := by cases x; unfold bulkI; omega
theorem bulk_len : ∀ (ks : List Itm), ks.length ≤ bulkL ks
  | [] => by simp [bulkL]
  | k :: ks => by
    have := bulk_pos k
    have := bulk_len ks
    simp only [bulkL, List.length_cons]; omega
theorem len_text (t : List UInt8) (h : t.length < 18446744073709551616) : (textB t).length ≤ 9 + t.length := by
  unfold textB
  split
  · omega
  · have := headB_len 128 t.length h
    simp; omega
theorem len_encI : ∀ (n : Nat) (x : Itm), bulkI x ≤ n → n ≤ 1000000000000 → (encI x).length ≤ 10 * bulkI x
  | 0, x, h, _ => by have := bulk_pos x; omega
  | n + 1, .mk l tv t kv ks, h, hn => by
    have key : ∀ (ks : List Itm), bulkL ks ≤ n → (encL ks).length ≤ 10 * bulkL ks := by
      intro ks
      induction ks with
      | nil => intro _; simp [encL, bulkL]
      | cons k ks ih =>
        intro hk
        unfold bulkL at hk ⊢
        unfold encL
        have h1 := len_encI n k (by omega) (by omega)
        have h2 := ih (by omega)
        simp; omega
    unfold bulkI at h ⊢
    unfold encI
    have hk := key ks (by omega)
    split
    · have := headB_len 192 (encL ks).length (by omega)
      simp; omega
    · have := len_text t (by omega)
      omega
theorem len_encL (ks : List Itm) (h : bulkL ks ≤ 1000000000000) : (encL ks).length ≤ 10 * bulkL ks := by
  induction ks with
  | nil => simp [encL, bulkL]
  | cons k ks ih =>
    unfold bulkL at h ⊢
    unfold encL
    have h1 := len_encI (bulkI k) k (Nat.le_refl _) (by omega)
    have h2 := ih (by omega)
    simp; omega
theorem encL_le (ks : List Itm) (k : Nat) : (encL (ks.take k)).length ≤ (encL ks).length := by
  have e : encL ks = encL (ks.take k) ++ encL (ks.drop k) := by rw [← encL_app, List.take_append_drop]
  rw [e]; simp
theorem encL_step (ks : List Itm) (k : Nat) (hk : k < ks.length) : encL (ks.take (k + 1)) = encL (ks.take k) ++ encI ks[k] := by
  rw [List.take_succ_eq_append_getElem hk, encL_snoc]
def OwnH (B base n : Nat) : Ty := fun v w => OwnOf b8 1 5 w B v (headB base n)
theorem OwnH.mono (B base n : Nat) : Mono (OwnH B base n) := fun _ _ _ h hb => OwnOf.kept h hb
def EncPost (x : Itm) (w : World) (e : Ending) (w' : World) : Prop := ∃ v, e = .returned v ∧ OwnOf b8 1 5 w' w.heap.size v (encI x) ∧ Below w.heap.size w w'
set_option maxHeartbeats 1000000 in
set_option maxRecDepth 100000 in
theorem enc_text (ta : Option Addr) (tn tc : Nat) (t : List UInt8) (htn : t.length = tn) (kv : Value) (ks : List Itm) (w : World) (h : Bytes w (.slice ta tn tc) t) (hN : tn ≤ 1000000000000) :
    Calls Try.prog 87 #[.agg #[.bool false, .slice ta tn tc, kv]] w (EncPost (.mk false (.slice ta tn tc) t kv ks) w) := by
  have hbel1 : Below w.heap.size w (w.alloc (.cells #[.bool false, .slice ta tn tc, kv] 25)) := (Below.refl _ _).alloc (Nat.le_refl _) _
  by_cases h1 : tn = 1 ∧ (t[0]?.getD 0).toNat < 128
  · obtain ⟨h1, h128⟩ := h1
    obtain ⟨x, rfl⟩ : ∃ x, t = [x] := List.length_eq_one_iff.1 (htn.trans h1)
    subst h1
    have hx : (x.toNat : Int) < 128 := by simp at h128; omega
    obtain ⟨b, off, rfl, hc⟩ := Bytes.at h 0 (by simp)
    have hE : encI (.mk false (.slice (some ⟨b, off, none⟩) 1 tc) [x] kv ks) = [x] := by
      unfold encI textB
      rw [if_neg (by simp), if_pos (by simp at h128 ⊢; exact h128)]
    have hlt := World.block_lt_of_cell? w _ hc
    have hc' : (w.alloc (.cells #[.bool false, .slice (some ⟨b, off, none⟩) 1 tc, kv] 25)).cell? ⟨b, off, none⟩ = some (.int .u8 (x.toNat : Int)) := by
      rw [hbel1.cell (p := ⟨b, off, none⟩) hlt]; simpa using hc
    have hO := OwnOf.made b8 1 5 (w.alloc (.cells #[.bool false, .slice (some ⟨b, off, none⟩) 1 tc, kv] 25)) w.heap.size [x] #[.int .u8 (x.toNat : Int)] 1 rfl rfl rfl hbel1.size (by unfold maxLen; omega)
    rw [World.size_alloc] at hO
    have HO := Lib.hid hO
    have HE := Lib.hid hE
    clear hE htn hc h128 hO
    go_enter Try.func87, Try.ntmps87
    go_wp2_with fail
    go_ret
    refine ⟨_, rfl, ?_, hbel1.alloc hbel1.size _⟩
    rw [HE.out]
    exact HO.out
  · have hE : encI (.mk false (.slice ta tn tc) t kv ks) = headB 128 tn ++ t := by
      unfold encI textB
      rw [if_neg (by simp), if_neg (by rw [htn]; exact h1), htn]
    have hhl := headB_len 128 tn (by omega)
    have ch := fun w => head_any 128 tn (by omega) (by omega) w
    obtain ⟨w1, hw1⟩ : ∃ w1, w1 = w.alloc (.cells #[.bool false, .slice ta tn tc, kv] 25) := ⟨_, rfl⟩
    have hB1 : Blk 25 w1 w.heap.size [.bool false, .slice ta tn tc, kv] := by rw [hw1]; exact Blk.new w _ _
    rw [← hw1] at hbel1
    have kt := hB1.cell 1
    have k1 := fun u : Ext w1 => u.cell (kt.trans (show _ = some (Value.slice ta tn tc) from rfl))
    have hb1 := h.below hbel1
    have HE := Lib.hid hE
    have Hw1 := Lib.hid hw1
    have Htn := Lib.hid htn
    have Ch := Lib.hid ch
    have Hhl := Lib.hid hhl
    clear hE hw1 ch kt hhl
    by_cases ht1 : tn = 1
    · subst ht1
      obtain ⟨x, rfl⟩ : ∃ x, t = [x] := List.length_eq_one_iff.1 htn
      have hx : ¬ (x.toNat : Int) < 128 := fun hx => h1 ⟨rfl, by simp; omega⟩
      obtain ⟨b, off, rfl, hc⟩ := Bytes.at h 0 (by simp)
      have hlt := World.block_lt_of_cell? w _ hc
      have hc' : w1.cell? ⟨b, off, none⟩ = some (.int .u8 (x.toNat : Int)) := by
        rw [hbel1.cell (p := ⟨b, off, none⟩) hlt]; simpa using hc
      rw [Hw1.out] at hc'
      clear htn hc h1
      go_enter Try.func87, Try.ntmps87
      go_wp2_with fail
      rw [← Hw1.out]
      clear hc'
      refine wp_region_typed w1 6 (by kernel_rfl) (by kernel_rfl) (Below.refl _ _) ?_; simp only [List.take_succ_cons, List.take_zero, List.take_nil]
      iterate 3 (refine wpX_step (by rfl) (fun K hK => ?_); go_simp; first | (refine hK _ ?_; clear hK K) | (apply Exists.intro; refine ⟨fun _ => ?_, hK _ ?_⟩; fail; clear hK K))
      refine wpX_rel 28 (OwnH w1.heap.size 128 1) rfl (of_decide_eq_true rfl) (OwnH.mono _ _ _) (fun w2 hw2 => ?_) ?_
      · simp only [relOf, List.filter_nil, forallRel]
        refine ⟨rfl, ?_⟩
        go_simp
        refine (Ch.out w2).mono ?_
        rintro e w3 ⟨v, rfl, o3, b3⟩
        exact ⟨v, rfl, o3.lower hw2.size, b3⟩
      iterate 2 (refine wpX_step (by rfl) (fun K hK => ?_); go_simp; first | (refine hK _ ?_; clear hK K) | (apply Exists.intro; refine ⟨fun _ => ?_, hK _ ?_⟩; fail; clear hK K))
      refine wpX_nil ?_
      intro u2 hb2 v28 h28
      change wpList _ _ _ [_, _] _ _
      have o2 : OwnOf b8 1 5 u2 w.heap.size v28 (headB 128 1) := OwnOf.lower h28 hbel1.size
      have hbel2 := Below.then hbel1 hb2
      have ht2 := hb1.below hb2
      have hlo := OwnOf.lt o2
      clear h28 k1
      go_wp2_with (refine wpList_appA (o := ⟨some 31, _, _, _, _, _⟩) (by rfl) (.tmp 28) (.tmp 30) 22 (by rfl) elU8 (by rfl) o2 (by rfl) ht2 hbel2.size (by have := Hhl.out; simp; omega) (by have := Hhl.out; unfold maxLen; simp; omega) ?_; intro v5 w5 o5 g5 _; have b5 := hbel2.grown g5 hbel2.size hlo)
      go_ret
      exact ⟨_, rfl, by rw [HE.out]; exact o5, b5⟩
    · have hne : ((tn : Int) == 1) = false := by rw [beq_eq_false_iff_ne]; omega
      clear h1 ht1
      go_enter Try.func87, Try.ntmps87
      go_wp2_with fail
      rw [← Hw1.out]
      clear hne
      refine wp_region_typed w1 6 (by kernel_rfl) (by kernel_rfl) (Below.refl _ _) ?_; simp only [List.take_succ_cons, List.take_zero, List.take_nil]
      iterate 3 (refine wpX_step (by rfl) (fun K hK => ?_); go_simp; first | (refine hK _ ?_; clear hK K) | (apply Exists.intro; refine ⟨fun _ => ?_, hK _ ?_⟩; fail; clear hK K))
      refine wpX_rel 28 (OwnH w1.heap.size 128 tn) rfl (of_decide_eq_true rfl) (OwnH.mono _ _ _) (fun w2 hw2 => ?_) ?_
      · simp only [relOf, List.filter_nil, forallRel]
        refine ⟨rfl, ?_⟩
        go_simp
        refine (Ch.out w2).mono ?_
        rintro e w3 ⟨v, rfl, o3, b3⟩
        exact ⟨v, rfl, o3.lower hw2.size, b3⟩
      iterate 2 (refine wpX_step (by rfl) (fun K hK => ?_); go_simp; first | (refine hK _ ?_; clear hK K) | (apply Exists.intro; refine ⟨fun _ => ?_, hK _ ?_⟩; fail; clear hK K))
      refine wpX_nil ?_
      intro u2 hb2 v28 h28
      change wpList _ _ _ [_, _] _ _
      have o2 : OwnOf b8 1 5 u2 w.heap.size v28 (headB 128 tn) := OwnOf.lower h28 hbel1.size
      have hbel2 := Below.then hbel1 hb2
      have ht2 := hb1.below hb2
      have hlo := OwnOf.lt o2
      clear h28 k1
      go_wp2_with (refine wpList_appA (o := ⟨some 31, _, _, _, _, _⟩) (by rfl) (.tmp 28) (.tmp 30) 22 (by rfl) elU8 (by rfl) o2 (by rfl) ht2 hbel2.size (by rw [Htn.out]; have := Hhl.out; omega) (by rw [Htn.out]; have := Hhl.out; unfold maxLen; omega) ?_; intro v5 w5 o5 g5 _; have b5 := hbel2.grown g5 hbel2.size hlo)
      go_ret
      exact ⟨_, rfl, by rw [HE.out]; exact o5, b5⟩
end Go.Proofs.Ytohenjgegkgncaa
