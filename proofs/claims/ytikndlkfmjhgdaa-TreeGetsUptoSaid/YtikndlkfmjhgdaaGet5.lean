/- tree.Get and the reference's GGet. -/
import Derived.Test.YtikndlkfmjhgdaaGet4
import Derived.Test.YtikndlkfmjhgdaaGRight
import Derived.Test.YtikndlkfmjhgdaaNibA
set_option linter.unusedSimpArgs false
set_option linter.unusedVariables false
namespace Go.Proofs.Ytikndlkfmjhgdaa
open Go.RowKit
theorem halves_small (l : List UInt8) : ∀ x ∈ halvesL l, x.toNat < 16 := by
  intro x hx
  unfold halvesL at hx
  obtain ⟨y, _, hy⟩ := List.mem_flatMap.1 hx
  unfold halfB at hy
  have h256 := y.toNat_lt
  simp only [List.mem_cons, List.not_mem_nil, or_false] at hy
  rcases hy with rfl | rfl
  · rw [UInt8.toNat_div]
    show y.toNat / 16 < 16
    omega
  · rw [UInt8.toNat_mod]
    show y.toNat % 16 < 16
    omega
def GPost (R : List UInt8 × Int) (w : World) (e : Ending) (w' : World) : Prop := ∃ (a : Option Addr) (n c : Nat), e = .returned (.tuple #[.slice a n c, .int .i64 R.2]) ∧ Below w.heap.size w w' ∧ Bytes w' (.slice a n c) R.1
def gg (t : Nd) (key : List UInt8) : List UInt8 × Int := if rgt 0 t = false then ([], 1) else if 32 < key.length then ([], 3) else (getP t (halvesL key), 0)
set_option maxRecDepth 100000 in
theorem own_any (a : Option Addr) (n c : Nat) (l : List UInt8) (hl : n ≤ 1000000000) (w : World) (h : Bytes w (.slice a n c) l) : Calls Try.prog 68 #[.slice a n c] w (GtPost l w) := by
  have hnl := h.fits.1
  have hm0 : OwnOf b8 1 5 (w.alloc (.cells #[] 5)) w.heap.size (.slice (some ⟨w.heap.size, 0, none⟩) 0 0) [] := OwnOf.made b8 1 5 w w.heap.size [] #[] 0 rfl rfl rfl (Nat.le_refl _) (by unfold maxLen; omega)
  have bA : Below w.heap.size w (w.alloc (.cells #[] 5)) := (Below.refl _ _).alloc (Nat.le_refl _) _
  have h' := h.alloc (.cells #[] 5)
  have hlo := OwnOf.lt hm0
  go_enter Try.func68, Try.ntmps68
  go_wp2_with (refine wpList_appA (o := ⟨some 5, _, _, _, _, _⟩) (by rfl) (.tmp 3) (.tmp 4) 24 (by rfl) elU8 (by rfl) hm0 (by rfl) h' bA.size (by simp <;> omega) (by unfold maxLen; simp <;> omega) ?_; intro v5 w5 o5 g5 _; have b5 := bA.grown g5 bA.size hlo; obtain ⟨a5, c5, rfl, _⟩ := o5.form' l.length (by simp))
  go_ret
  exact ⟨a5, _, c5, rfl, b5, o5.row⟩
theorem getP_len : ∀ (n : Nat) (t : Nd), SizeOf.sizeOf t ≤ n → ∀ q, (getP t q).length ≤ bulkN t
  | 0, .mk kd pv p vv v kv ks, h, q => by simp at h
  | n + 1, .mk kd pv p vv v kv ks, h, q => by
    have hks : ∀ (i : Nat) (q : List UInt8), (getL ks i q).length ≤ bulkNL ks := by
      intro i q
      cases hi : ks[i]? with
      | none =>
        have : getL ks i q = [] := by
          clear h
          revert i
          induction ks with
          | nil => intro i _; rfl
          | cons k ks ih =>
            intro i hi
            cases i with
            | zero => simp at hi
            | succ i => unfold getL; exact ih i (by simpa using hi)
        rw [this]; simp
      | some k =>
        rw [getL_at hi]
        have hm := List.mem_of_getElem? hi
        have := List.sizeOf_lt_of_mem hm
        simp only [Nd.mk.sizeOf_spec] at h
        exact Nat.le_trans (getP_len n k (by omega) q) (bulkN_mem hm)
    unfold getP bulkN
    split
    · split
      · omega
      · simp
    · split
      · split
        · have := hks 0 (q.drop p.length); omega
        · simp
      · split
        · cases q with
          | nil => simp only; omega
          | cons x q => have := hks x.toNat q; simp only; omega
        · simp
set_option maxHeartbeats 1000000 in
set_option maxRecDepth 100000 in
theorem tree_get_any (t : Nd) (ka : Option Addr) (kn kc : Nat) (key : List UInt8) (hkn : key.length = kn) (w : World) (hI : IsNd w t) (hb : bulkN t ≤ 1048576) (hk : Bytes w (.slice ka kn kc) key) :
    Calls Try.prog 28 #[.agg (ndcells t).toArray, .slice ka kn kc] w (GPost (gg t key) w) := by
  obtain ⟨R, hR⟩ : ∃ R, R = gg t key := ⟨_, rfl⟩
  rw [← hR]
  unfold gg at hR
  have HR := Lib.hid hR
  obtain ⟨w1, hw1⟩ : ∃ w1, w1 = w.alloc (.cells (ndcells t).toArray 32) := ⟨_, rfl⟩
  have hz : Blk 32 w1 w.heap.size (ndcells t) := by rw [hw1]; exact Blk.new w _ _
  have hbel : Below w.heap.size w w1 := by rw [hw1]; exact (Below.refl _ _).alloc (Nat.le_refl _) _
  have c1 := tree_right_any t w1 (hI.kept hbel) (by omega)
  have c2 := fun (u : World) (hu : Below w.heap.size w u) (hr : rgt 0 t = true) => inner_any (SizeOf.sizeOf t) t (Nat.le_refl _) 0 u (hI.kept hu) hr
  have c3 := fun (u : World) (hu : Below w.heap.size w u) (h32 : kn ≤ 32) => halves_any ka kc key u (by rw [hkn]; exact hk.below hu) (by omega)
  have hhl := halves_len key
  have c4 := fun (qa : Option Addr) (qn qc : Nat) (u : World) (hu : Below w.heap.size w u) (hr : rgt 0 t = true) (hq : Bytes u (.slice qa qn qc) (halvesL key)) => get_any (SizeOf.sizeOf t) t (Nat.le_refl _) 0 (halvesL key) qa qn qc u (hI.kept hu) hr (halves_small key) hq
  have hgl := getP_len (SizeOf.sizeOf t) t (Nat.le_refl _) (halvesL key)
  have c5 := fun (a : Option Addr) (n c : Nat) (u : World) (h : Bytes u (.slice a n c) (getP t (halvesL key))) => own_any a n c (getP t (halvesL key)) (by have := h.fits.1; omega) u h
  have hKl := ndcells_len t
  obtain ⟨K, hK⟩ : ∃ K, K = ndcells t := ⟨_, rfl⟩
  obtain ⟨V, hV⟩ : ∃ V, V = nv t := ⟨_, rfl⟩
  obtain ⟨P0, hP0⟩ : ∃ P, P = halvesL key := ⟨_, rfl⟩
  obtain ⟨G, hG⟩ : ∃ P, P = getP t P0 := ⟨_, rfl⟩
  simp only [← hP0] at c3 c4 c5 HR
  simp only [← hG] at c4 c5 HR
  rw [hkn] at c3
  simp only [← hV] at c2 c4
  simp only [← hK] at c1 c2 hKl hz hw1 ⊢
  have r1 := hz.all0
  have Hw1 := Lib.hid hw1
  have C1 := Lib.hid c1
  have C2 := Lib.hid c2
  have C3 := Lib.hid c3
  have C4 := Lib.hid c4
  have C5 := Lib.hid c5
  have HKl := Lib.hid hKl
  have Hz := Lib.hid hz
  have Hkn := Lib.hid hkn
  clear hw1 hR c1 c2 c3 c4 c5 hK hV hP0 hG hKl hz hkn hhl hgl hI hk hb
  cases hrt : rgt 0 t with
  | false =>
    have hRf : R = ([], 1) := by rw [HR.out, if_pos hrt]
    subst hRf
    rw [hrt] at C1
    go_enter Try.func28, Try.ntmps28
    go_wp2_with (first
      | (refine wpList_loadW (o := ⟨some 7, _, _, _, _, _⟩) 32 (.tmp 2) (by rfl) w.heap.size 0 (by rfl) aggNode HKl.out (by rw [← Hw1.out]; exact r1) (by rfl) ?_)
      | (go_at_call 26; rw [← Hw1.out]; (with_reducible refine C1.out.mono ?_); rintro e w2 ⟨rfl, b2⟩; have bb2 := Below.then hbel b2))
    go_ret2
    exact ⟨none, 0, 0, rfl, bb2, RowOf.nil b8 1 _⟩
  | true =>
    rw [hrt] at C1
    by_cases h32 : 32 < kn
    · have hRf : R = ([], 3) := by rw [HR.out, if_neg (by rw [hrt]; simp), if_pos (by rw [Hkn.out]; exact h32)]
      subst hRf
      have h32i : (32 : Int) < (kn : Int) := by omega
      clear h32
      go_enter Try.func28, Try.ntmps28
      go_wp2_with (first
        | (refine wpList_loadW (o := ⟨some 7, _, _, _, _, _⟩) 32 (.tmp 2) (by rfl) w.heap.size 0 (by rfl) aggNode HKl.out (by rw [← Hw1.out]; exact r1) (by rfl) ?_)
        | (go_at_call 26; rw [← Hw1.out]; (with_reducible refine C1.out.mono ?_); rintro e w2 ⟨rfl, b2⟩; have bb2 := Below.then hbel b2))
      go_ret2
      exact ⟨none, 0, 0, rfl, bb2, RowOf.nil b8 1 _⟩
    · have hRf : R = (G, 0) := by rw [HR.out, if_neg (by rw [hrt]; simp), if_neg (by rw [Hkn.out]; exact h32)]
      subst hRf
      have h32i : ¬ (32 : Int) < (kn : Int) := by omega
      have h32n : kn ≤ 32 := by omega
      have H32 := Lib.hid h32n
      have Hrt := Lib.hid hrt
      clear h32 h32n hrt
      go_enter Try.func28, Try.ntmps28
      go_wp2_with (first
        | (refine wpList_loadW (o := ⟨some 7, _, _, _, _, _⟩) 32 (.tmp 2) (by rfl) w.heap.size 0 (by rfl) aggNode HKl.out (by rw [← Hw1.out]; exact r1) (by rfl) ?_)
        | (go_at_call 26; rw [← Hw1.out]; (with_reducible refine C1.out.mono ?_); rintro e w2 ⟨rfl, b2⟩; have bb2 := Below.then hbel b2; have r2 := (Hz.out.kept b2).all0)
        | (refine wpList_loadW (o := ⟨some 14, _, _, _, _, _⟩) 32 (.tmp 2) (by rfl) w.heap.size 0 (by rfl) aggNode HKl.out r2 (by rfl) ?_)
        | (go_at_call 66; (with_reducible refine (C2.out _ bb2 Hrt.out).mono ?_); rintro e w3 ⟨rfl, b3⟩; have bb3 := Below.then bb2 b3)
        | (go_at_call 59; (with_reducible refine (C3.out _ bb3 H32.out).mono ?_); rintro e w4 ⟨v4, rfl, o4, b4⟩; obtain ⟨a4, c4, rfl, _⟩ := o4.form; have bb4 := Below.then bb3 b4; have q4 := o4.row)
        | (go_at_call 80; (with_reducible refine (C4.out _ _ _ _ bb4 Hrt.out q4).mono ?_); rintro e w5 ⟨a5, n5, c5, rfl, b5, h5⟩; have bb5 := Below.then bb4 b5)
        | (go_at_call 68; (with_reducible refine (C5.out _ _ _ _ h5).mono ?_); rintro e w6 ⟨a6, n6, c6, rfl, b6, h6⟩; have bb6 := Below.then bb5 b6))
      go_ret2
      exact ⟨a6, n6, c6, rfl, bb6, h6⟩
end Go.Proofs.Ytikndlkfmjhgdaa
