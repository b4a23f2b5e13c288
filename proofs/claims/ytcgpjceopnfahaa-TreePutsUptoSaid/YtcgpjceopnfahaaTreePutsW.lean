/- The walk of the law TreePuts. -/
import Derived.Test.YtcgpjceopnfahaaPut23
import Derived.Test.YtcgpjceopnfahaaPut24
set_option linter.unusedSimpArgs false
set_option linter.unusedVariables false
namespace Go.Proofs.Ytcgpjceopnfahaa
open Go.RowKit
theorem put_blk (l : List Rt) (T : Pn) (hg : Grows l T) (hf : ∀ r ∈ l, r.1.length ≤ 64 ∧ r.2.length ≤ 1024) (hL : l.length ≤ 20000000) : blkP T ≤ 100000000000 := by
  have h1 := grows_blk hg
  have h2 := wtR_le hf
  omega
theorem rput_fine {l : List Rt} (hf : ∀ r ∈ l, r.1.length ≤ 64 ∧ r.2.length ≤ 1024) (key v : List UInt8) (hk : key.length ≤ 32) (hv : v.length ≤ 1024) : (∀ r ∈ rputP l (halvesL key) v, r.1.length ≤ 64 ∧ r.2.length ≤ 1024) ∧ (rputP l (halvesL key) v).length ≤ l.length + 1 := by
  have hhl := halvesL_len key
  refine ⟨fun r hr => ?_, ?_⟩
  · rcases rput_mem hr with hr | rfl
    · exact hf r hr
    · exact ⟨by show (halvesL key).length ≤ 64; omega, hv⟩
  · unfold rputP
    split
    · exact Nat.le_succ_of_le (List.length_filter_le _ _)
    · rw [(ins_perm _ _).length_eq, List.length_cons]
      exact Nat.succ_le_succ (List.length_filter_le _ _)
theorem pp_blk (t : Nd) (key v : List UInt8) (hb : bulkN t ≤ 1048576) : blkP (pp t key v).1 ≤ 100000000000 := by
  unfold pp
  split
  · decide
  · rename_i hr
    split
    · decide
    · split
      · decide
      · obtain ⟨l, hl, hg, hfi⟩ := put_fine (by simpa using hr)
        have hll := rts_len hl
        obtain ⟨h1, h2⟩ := rput_fine (fun r hr => by have := hfi r hr; unfold fineP at this; omega) key v (by omega) (by omega)
        exact put_blk _ _ (put_grows hg (halvesL key) v (halves_small key)) h1 (by omega)
set_option maxHeartbeats 2000000 in
set_option maxRecDepth 100000 in
theorem treePuts_walk (t : Nd) (ka va : Option Addr) (kc vc : Nat) (key v : List UInt8) (w : World) (hI : IsNd w t) (hb : bulkN t ≤ 1048576) (hk : Bytes w (.slice ka key.length kc) key) (hv : Bytes w (.slice va v.length vc) v) :
    Calls Try.prog 3 #[.agg (ndcells t).toArray, .slice ka key.length kc, .slice va v.length vc] w fun e w' => e = .returned (.bool true) ∧ Below w.heap.size w w' := by
  obtain ⟨kn, hkn⟩ : ∃ n, n = key.length := ⟨_, rfl⟩
  obtain ⟨vn, hvn⟩ : ∃ n, n = v.length := ⟨_, rfl⟩
  rw [← hkn] at hk ⊢
  rw [← hvn] at hv ⊢
  have hbk := pp_blk t key v hb
  have c1 := fun u (hu : Below w.heap.size w u) => tree_put_any t ka va kn kc vn vc key v hkn.symm hvn.symm u (hI.kept hu) (by omega) (hk.below hu) (hv.below hu)
  have c2 := fun u (hu : Below w.heap.size w u) => gput_any t ka va kn kc vn vc key v hkn.symm hvn.symm u (hI.kept hu) hb (hk.below hu) (hv.below hu)
  have hKl := ndcells_len t
  obtain ⟨K, hK⟩ : ∃ K, K = ndcells t := ⟨_, rfl⟩
  obtain ⟨L, hL⟩ : ∃ L, L = pp t key v := ⟨_, rfl⟩
  simp only [← hK, ← hL] at c1 c2 hbk hKl ⊢
  have cs := fun (t s : Nd) (u : World) (ht : IsNd u t) (hs : IsNd u s) (et : erN t = L.1) (es : erN s = L.1) => Calls.mono (same_any 100000000000 (Nat.le_refl _) (SizeOf.sizeOf t) t (Nat.le_refl _) s u ht hs (by rw [← blkP_er, et]; omega)) (R' := fun e w' => e = .returned (.bool true) ∧ Below u.heap.size u w') (fun e w' h => by rw [es, ← et, sameN_er] at h; exact h)
  have HKl := Lib.hid hKl
  have C1 := Lib.hid c1
  have C2 := Lib.hid c2
  have Cs := Lib.hid cs
  have hbe : ∀ x : Int, (x == x) = true := fun x => beq_self_eq_true x
  have hh := Blk.new w 25 K
  have hbel : Below w.heap.size w (w.alloc (.cells K.toArray 25)) := (Below.refl _ _).alloc (Nat.le_refl _) _
  have r1 := hh.all0
  clear c1 c2 cs hK hL hbk hKl hkn hvn hI hk hv hb
  obtain ⟨P, E⟩ := L
  go_enter Try.func3, Try.ntmps3
  go_wp2_with (first
    | ((with_reducible show wpList _ _ _ (⟨some 12, _, _, _, _, _⟩ :: _) _ _); refine wpList_loadW (o := ⟨some 12, _, _, _, _, _⟩) 25 (.tmp 3) (by rfl) w.heap.size 0 (by rfl) aggNode HKl.out r1 (by rfl) ?_)
    | (go_at_call 7; (with_reducible refine (C1.out _ hbel).mono ?_); rintro e w2 ⟨t, rfl, it, et, b2⟩; have bb2 := Below.then hbel b2; have hh2 := hh.kept b2; have n2 := it.one; have tl := ndcells_len t)
    | ((with_reducible show wpList _ _ _ (⟨none, Op.store _ _ (Operand.tmp 16), _, _, _, _⟩ :: _) _ _); refine wpList_storeA (o := ⟨none, _, _, _, _, _⟩) (by rfl) 25 (.tmp 7) (.tmp 16) (by rfl) w2.heap.size (ndcells t) (by rfl) (by rfl) aggNode (Blk.new w2 25 (ndcells zN)) tl (by rfl) n2 ((Below.refl w2.heap.size w2).alloc (Nat.le_refl _) _) (Nat.le_refl _) ?_; intro w3 h3 b3 _; have bb3 := Below.then bb2 b3; have r3 := (hh2.kept b3).all0; have it3 := it.kept b3)
    | ((with_reducible show wpList _ _ _ (⟨some 19, _, _, _, _, _⟩ :: _) _ _); refine wpList_loadW (o := ⟨some 19, _, _, _, _, _⟩) 25 (.tmp 3) (by rfl) w.heap.size 0 (by rfl) aggNode HKl.out r3 (by rfl) ?_)
    | (go_at_call 8; (with_reducible refine (C2.out _ bb3).mono ?_); rintro e w4 ⟨s, rfl, is, es, b4⟩; have bb4 := Below.then bb3 b4; have n4 := is.one; have sl := ndcells_len s; have it4 := it3.kept b4; have h4 := h3.kept b4)
    | ((with_reducible show wpList _ _ _ (⟨none, Op.store _ _ (Operand.tmp 23), _, _, _, _⟩ :: _) _ _); refine wpList_storeA (o := ⟨none, _, _, _, _, _⟩) (by rfl) 25 (.tmp 9) (.tmp 23) (by rfl) w4.heap.size (ndcells s) (by rfl) (by rfl) aggNode (Blk.new w4 25 (ndcells zN)) sl (by rfl) n4 ((Below.refl w4.heap.size w4).alloc (Nat.le_refl _) _) (Nat.le_refl _) ?_; intro w5 h5 b5 _; have bb5 := Below.then bb4 b5; have it5 := it4.kept b5; have is5 := is.kept b5; have r4 := (h4.kept b5).all0; have r5 := h5.all0; have CS := Cs.out t s w5 it5 is5 et es)
    | ((with_reducible show wpList _ _ _ (⟨some 29, _, _, _, _, _⟩ :: _) _ _); refine wpList_loadW (o := ⟨some 29, _, _, _, _, _⟩) 25 (.tmp 7) (by rfl) w2.heap.size 0 (by rfl) aggNode tl r4 (by rfl) ?_)
    | ((with_reducible show wpList _ _ _ (⟨some 30, _, _, _, _, _⟩ :: _) _ _); refine wpList_loadW (o := ⟨some 30, _, _, _, _, _⟩) 25 (.tmp 9) (by rfl) w4.heap.size 0 (by rfl) aggNode sl r5 (by rfl) ?_)
    | (go_at_call 9; (with_reducible refine CS.mono ?_); rintro e w6 ⟨rfl, b6⟩; have bb6 := Below.then bb5 b6))
  go_ret
  exact ⟨rfl, bb6⟩
end Go.Proofs.Ytcgpjceopnfahaa
