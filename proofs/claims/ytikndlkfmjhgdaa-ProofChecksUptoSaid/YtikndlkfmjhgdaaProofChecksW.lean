/- The walk of the law ProofChecks. -/
import Derived.Test.YtikndlkfmjhgdaaChk6
set_option linter.unusedSimpArgs false
set_option linter.unusedVariables false
namespace Go.Proofs.Ytikndlkfmjhgdaa
open Go.RowKit
theorem upto_each2 {H : Type} {d : DataW H} {ps : List (Value × List UInt8)} (h : SzT d ps) : ∀ q ∈ ps, q.2.length ≤ Rows.uptoBulk d := by
  intro q hq
  have h1 := (upto_texts h).2
  rw [List.length_flatMap] at h1
  have : ∀ (l : List (Value × List UInt8)), q ∈ l → q.2.length ≤ (l.map fun p => p.2.length).sum := by
    intro l
    induction l with
    | nil => intro h; simp at h
    | cons p l ih =>
      intro h
      simp only [List.map_cons, List.sum_cons]
      rcases List.mem_cons.1 h with rfl | h
      · omega
      · have := ih h; omega
  exact Nat.le_trans (this ps hq) h1
theorem bytes_ints (xs : List Int) (hw : ∀ x ∈ xs, (Lit.int .u8 x).wf = true) : ∃ F : List UInt8, F.length = xs.length ∧ xs.map (Value.int .u8) = F.map u8v := by
  refine ⟨xs.map fun x => UInt8.ofNat x.toNat, by simp, ?_⟩
  rw [List.map_map]
  exact List.map_congr_left fun x hx => u8v_of x (wf_u8_lt (hw x hx))
set_option maxHeartbeats 2000000 in
set_option maxRecDepth 100000 in
theorem proofChecks_walk (hs : List Int) (hl : hs.length = 32) (hw : ∀ x ∈ hs, (Lit.int .u8 x).wf = true) (ka : Option Addr) (kc : Nat) (key : List UInt8) (ca : Option Addr) (cc : Nat) (ps : List (Value × List UInt8)) (w : World)
    (hk : Bytes w (.slice ka key.length kc) key) (hc : Texts w (.slice ca ps.length cc) ps) (hN : ps.length ≤ 1048576) (hNs : ∀ q ∈ ps, q.2.length ≤ 1048576) :
    Calls Try.prog 3 #[.agg (hs.map (Value.int .u8)).toArray, .slice ka key.length kc, .slice ca ps.length cc] w fun e w' => e = .returned (.bool true) ∧ Below w.heap.size w w' := by
  obtain ⟨H, hH, hHe⟩ := bytes_ints hs hw
  rw [hl] at hH
  rw [hHe]
  obtain ⟨kn, hkn⟩ : ∃ n, n = key.length := ⟨_, rfl⟩
  obtain ⟨cn, hcn⟩ : ∃ n, n = ps.length := ⟨_, rfl⟩
  rw [← hkn] at hk ⊢
  rw [← hcn] at hc hN ⊢
  have c1 := fun u (hu : Below w.heap.size w u) => check_any H hH ka kn kc key hkn.symm ca cn cc ps hcn.symm u (hk.below hu) (hc.below hu) hN hNs
  have c2 := fun u (hu : Below w.heap.size w u) => icheck_any H hH ka kn kc key hkn.symm ca cn cc ps hcn.symm u (hk.below hu) (hc.below hu) hN hNs
  obtain ⟨R, hR⟩ : ∃ R, R = chk H key (ps.map (·.2)) := ⟨_, rfl⟩
  simp only [← hR] at c1 c2
  obtain ⟨C, hC⟩ : ∃ C, C = H.map u8v := ⟨_, rfl⟩
  have hCl : C.length = 32 := by rw [hC, List.length_map, hH]
  simp only [← hC] at c1 c2 ⊢
  obtain ⟨w1, hw1⟩ : ∃ w1, w1 = w.alloc (.cells C.toArray 23) := ⟨_, rfl⟩
  have hz : Blk 23 w1 w.heap.size C := by rw [hw1]; exact Blk.new w _ _
  have hbel : Below w.heap.size w w1 := by rw [hw1]; exact (Below.refl _ _).alloc (Nat.le_refl _) _
  have r1 := hz.all0
  have Hw1 := Lib.hid hw1
  have C1 := Lib.hid c1
  have C2 := Lib.hid c2
  have hbe : ∀ x : Int, (x == x) = true := fun x => beq_self_eq_true x
  clear hw1 c1 c2 hR hC hNs hHe hw hl hH hkn hcn hk hc
  obtain ⟨l, E⟩ := R
  go_enter Try.func3, Try.ntmps3
  go_wp2_with (first
    | (refine wpList_loadW (o := ⟨some 12, _, _, _, _, _⟩) 23 (.tmp 3) (by rfl) w.heap.size 0 (by rfl) aggHash' hCl (by rw [← Hw1.out]; exact r1) (by rfl) ?_)
    | (go_at_call 13; (with_reducible refine (C1.out _ (by rw [← Hw1.out]; exact hbel)).mono ?_); rintro e w2 ⟨a1, n1, c1, rfl, b2, h2⟩; rw [← Hw1.out] at b2; have bb2 := Below.then hbel b2; have r2 := (hz.kept b2).all0)
    | (refine wpList_loadW (o := ⟨some 19, _, _, _, _, _⟩) 23 (.tmp 3) (by rfl) w.heap.size 0 (by rfl) aggHash' hCl r2 (by rfl) ?_)
    | (go_at_call 14; (with_reducible refine (C2.out _ bb2).mono ?_); rintro e w3 ⟨a2, n2, c2, rfl, b3, h3⟩; have bb3 := Below.then bb2 b3; have s1 := run_str (P := Try.prog) (src := 24) (dst := 9) elU8.ht (by kernel_rfl) (by kernel_rfl) (h2.below b3); have s2 := run_str (P := Try.prog) (src := 24) (dst := 9) elU8.ht (by kernel_rfl) (by kernel_rfl) h3))
  go_ret
  exact ⟨rfl, bb3⟩
end Go.Proofs.Ytikndlkfmjhgdaa
