/- The walk of the law ProofMakes. -/
import Derived.Test.YtnhbfnegpjkojaaMk4
import Derived.Test.YtnhbfnegpjkojaaMk6
import Derived.Test.YtnhbfnegpjkojaaRRead2
set_option linter.unusedSimpArgs false
set_option linter.unusedVariables false
namespace Go.Proofs.Ytnhbfnegpjkojaa
open Go.RowKit
theorem dn_len2 : ∀ (n : Nat) (t : Nd) (p : List UInt8), bulkN t ≤ n → (dn n t p).length ≤ bulkN t
  | 0, t, p, h => by have := bulkN_pos t; omega
  | n + 1, .mk kd pv path vv v kv ks, p, h => by
    have h0 := bulkN_pos (.mk kd pv path vv v kv ks)
    cases hr : rst kd path p with
    | none => rw [dn, hr]; simpa using h0
    | some x =>
      obtain ⟨j, q⟩ := x
      cases hk : ks[j]? with
      | none => rw [dn, hr]; simp only [hk]; simpa using h0
      | some k =>
        rw [dn, hr]; simp only [hk]
        have hm := bulkN_mem (List.mem_of_getElem? hk)
        have hb : bulkN (.mk kd pv path vv v kv ks) = 1 + path.length + v.length + bulkNL ks := by rw [bulkN]
        split
        · simpa using h0
        · have := dn_len2 n k q (by omega)
          simp only [List.length_cons]; omega
theorem mkL_len (t : Nd) (key : List UInt8) (hb : bulkN t ≤ 1048576) : (mkL t key).length ≤ 1048576 := by
  unfold mkL
  split
  · split
    · have := dn_len2 (bulkN t) t (halvesL key) (Nat.le_refl _); omega
    · simp
  · simp
set_option maxHeartbeats 2000000 in
set_option maxRecDepth 100000 in
theorem proofMakes_walk (t : Nd) (ka : Option Addr) (kc : Nat) (key : List UInt8) (w : World) (hI : IsNd w t) (hb : bulkN t ≤ 1048576) (hk : Bytes w (.slice ka key.length kc) key) :
    Calls Try.prog 10 #[.agg (ndcells t).toArray, .slice ka key.length kc] w fun e w' => e = .returned (.bool true) ∧ Below w.heap.size w w' := by
  obtain ⟨w1, hw1⟩ : ∃ w1, w1 = w.alloc (.cells (ndcells t).toArray 25) := ⟨_, rfl⟩
  have hz : Blk 25 w1 w.heap.size (ndcells t) := by rw [hw1]; exact Blk.new w _ _
  have hbel : Below w.heap.size w w1 := by rw [hw1]; exact (Below.refl _ _).alloc (Nat.le_refl _) _
  obtain ⟨kn, hkn⟩ : ∃ n, n = key.length := ⟨_, rfl⟩
  rw [← hkn] at hk ⊢
  have c1 := fun u (hu : Below w.heap.size w u) => make_any t ka kn kc key hkn.symm u (hI.kept hu) (by omega) (hk.below hu)
  have c2 := fun u (hu : Below w.heap.size w u) => imake_any t ka kn kc key hkn.symm u (hI.kept hu) (by omega) (hk.below hu)
  have hll := mkL_len t key hb
  have hKl := ndcells_len t
  obtain ⟨K, hK⟩ : ∃ K, K = ndcells t := ⟨_, rfl⟩
  obtain ⟨E, hE⟩ : ∃ R, R = mkE t key := ⟨_, rfl⟩
  obtain ⟨L, hL⟩ : ∃ R, R = mkL t key := ⟨_, rfl⟩
  obtain ⟨n, hn⟩ : ∃ n, n = L.length := ⟨_, rfl⟩
  simp only [← hK, ← hE, ← hL] at c1 c2 hz hKl hw1 hll ⊢
  have r1 := hz.all0
  have Hw1 := Lib.hid hw1
  have C1 := Lib.hid c1
  have C2 := Lib.hid c2
  have Hn := Lib.hid hn
  have Hll := Lib.hid hll
  have hbe : (E == E) = true := beq_self_eq_true E
  clear hw1 c1 c2 hE hL hK hI hk hkn hb hn hll
  go_enter Try.func10, Try.ntmps10
  go_wp2_with (first
    | ((with_reducible show wpList _ _ _ (⟨some 10, _, _, _, _, _⟩ :: _) _ _); refine wpList_loadW (o := ⟨some 10, _, _, _, _, _⟩) 25 (.tmp 2) (by rfl) w.heap.size 0 (by rfl) aggNode hKl (by rw [← Hw1.out]; exact r1) (by rfl) ?_)
    | (go_at_call 50; rw [← Hw1.out]; (with_reducible refine (C1.out _ hbel).mono ?_); rintro e w2 ⟨v2, ps2, rfl, r2, t2, m2, b2⟩; have bb2 := Below.then hbel b2; have n2 := (hz.kept b2).all0; have l2 : Hid (ps2.length = n) := Lib.hid (by rw [Hn.out, ← m2, List.length_map]); obtain ⟨a2, k2, rfl, _⟩ := r2.form' n l2.out; have T2 : Texts w2 (.slice a2 n k2) ps2 := ⟨r2, t2⟩; have M2 := Lib.hid m2; clear m2 t2 r2)
    | ((with_reducible show wpList _ _ _ (⟨some 16, _, _, _, _, _⟩ :: _) _ _); refine wpList_loadW (o := ⟨some 16, _, _, _, _, _⟩) 25 (.tmp 2) (by rfl) w.heap.size 0 (by rfl) aggNode hKl n2 (by rfl) ?_)
    | (go_at_call 51; (with_reducible refine (C2.out _ bb2).mono ?_); rintro e w3 ⟨v3, ps3, rfl, r3, t3, m3, b3⟩; have bb3 := Below.then bb2 b3; have l3 : Hid (ps3.length = n) := Lib.hid (by rw [Hn.out, ← m3, List.length_map]); obtain ⟨a3, k3, rfl, _⟩ := r3.form' n l3.out; have T3 : Texts w3 (.slice a3 n k3) ps3 := ⟨r3, t3⟩; have St := Lib.hid (sameTexts_any a2 a3 n k2 k3 ps2 ps3 l2.out l3.out (by rw [Hn.out]; exact Hll.out) w3 (T2.below b3) T3 (by rw [M2.out, m3])); clear m3 t3 r3)
    | (go_at_call 15; refine St.out.mono ?_; rintro e w4 ⟨rfl, b4⟩; have bb4 := Below.then bb3 b4))
  go_ret
  exact ⟨rfl, bb4⟩
end Go.Proofs.Ytnhbfnegpjkojaa
