/- The reference's putError, GPut. -/
import Derived.Test.YtcgpjceopnfahaaPut22
import Derived.Test.YtcgpjceopnfahaaPut17
set_option linter.unusedSimpArgs false
set_option linter.unusedVariables false
namespace Go.Proofs.Ytcgpjceopnfahaa
open Go.RowKit
def putE (kn vn : Nat) : Int := if 32 < kn then 3 else if 1024 < vn then 2 else 0
set_option maxRecDepth 100000 in
theorem putError_any (ka va : Option Addr) (kn kc vn vc : Nat) (w : World) : Calls Try.prog 25 #[.slice ka kn kc, .slice va vn vc] w fun e w' => e = .returned (.int .i64 (putE kn vn)) ∧ w' = w := by
  obtain ⟨R, hR⟩ : ∃ R, R = putE kn vn := ⟨_, rfl⟩
  rw [← hR]
  unfold putE at hR
  have HR := Lib.hid hR
  clear hR
  by_cases h1 : 32 < kn
  · have hr : R = 3 := by rw [HR.out, if_pos h1]
    subst hr
    have h1i : (32 : Int) < (kn : Int) := by omega
    clear h1
    go_enter Try.func25, Try.ntmps25
    go_wp2_with fail
    go_ret
    exact ⟨rfl, rfl⟩
  · have h1i : ¬ (32 : Int) < (kn : Int) := by omega
    by_cases h2 : 1024 < vn
    · have hr : R = 2 := by rw [HR.out, if_neg h1, if_pos h2]
      subst hr
      have h2i : (1024 : Int) < (vn : Int) := by omega
      clear h1 h2
      go_enter Try.func25, Try.ntmps25
      go_wp2_with fail
      go_ret
      exact ⟨rfl, rfl⟩
    · have hr : R = 0 := by rw [HR.out, if_neg h1, if_neg h2]
      subst hr
      have h2i : ¬ (1024 : Int) < (vn : Int) := by omega
      clear h1 h2
      go_enter Try.func25, Try.ntmps25
      go_wp2_with fail
      go_ret
      exact ⟨rfl, rfl⟩
/-- what grows of put routes -/
theorem grown_put (l : List Rt) (T : Pn) (hg : Grows l T) (hf : ∀ r ∈ l, r.1.length ≤ 64 ∧ r.2.length ≤ 1024) (ho : Ord l) (key v : List UInt8) (hk : key.length ≤ 32) (hv : v.length ≤ 1024) (hL : l.length ≤ 1048576) (a : Option Addr) (L c : Nat) (w : World) (h : RowOf rcells 2 w (.slice a L c) (rputP l (halvesL key) v)) :
    Calls Try.prog 27 #[.slice a L c] w (GrwPost (putQ T (halvesL key) v) w) := by
  have hhl := halvesL_len key
  have hmem : ∀ r ∈ rputP l (halvesL key) v, r.1.length ≤ 64 ∧ r.2.length ≤ 1024 := fun r hr => by
    rcases rput_mem hr with hr | rfl
    · exact hf r hr
    · exact ⟨by show (halvesL key).length ≤ 64; omega, hv⟩
  have hlen : (rputP l (halvesL key) v).length ≤ l.length + 1 := by
    unfold rputP
    split
    · exact Nat.le_succ_of_le (List.length_filter_le _ _)
    · rw [(ins_perm _ _).length_eq, List.length_cons]
      exact Nat.succ_le_succ (List.length_filter_le _ _)
  have hgg := put_grows hg (halvesL key) v (halves_small key)
  rw [← grows_grw hgg 65 (fun r hr => by have := (hmem r hr).1; omega)]
  have hLe := h.fits.1
  exact grown_any 65 _ a L c w hLe.symm (by omega) (fun r hr => by have := hmem r hr; omega) (ord_ok 65 _ (ord_rput ho _ _) (fun r hr => by have := (hmem r hr).1; omega)) h
set_option maxHeartbeats 4000000 in
set_option maxRecDepth 100000 in
theorem gput_any (t : Nd) (ka va : Option Addr) (kn kc vn vc : Nat) (key v : List UInt8) (hkn : key.length = kn) (hvn : v.length = vn) (w : World) (hI : IsNd w t) (hb : bulkN t ≤ 1048576) (hk : Bytes w (.slice ka kn kc) key) (hv : Bytes w (.slice va vn vc) v) :
    Calls Try.prog 8 #[.agg (ndcells t).toArray, .slice ka kn kc, .slice va vn vc] w (PnPost (pp t key v) w) := by
  obtain ⟨R, hR⟩ : ∃ R, R = pp t key v := ⟨_, rfl⟩
  rw [← hR]
  unfold pp at hR
  rw [hkn, hvn] at hR
  have HR := Lib.hid hR
  obtain ⟨w1, hw1⟩ : ∃ w1, w1 = (w.alloc (.cells (ndcells t).toArray 25)).alloc (.cells (ndcells zN).toArray 25) := ⟨_, rfl⟩
  have hz : Blk 25 w1 w.heap.size (ndcells t) := by rw [hw1]; exact (Blk.new w _ _).alloc _
  have hz6 : Blk 25 w1 (w.heap.size + 1) (ndcells zN) := by
    have := Blk.new (w.alloc (.cells (ndcells t).toArray 25)) 25 (ndcells zN)
    simp only [World.size_alloc] at this
    rw [hw1]; exact this
  have hbel : Below w.heap.size w w1 := by rw [hw1]; exact ((Below.refl _ _).alloc (Nat.le_refl _) _).alloc (by simp) _
  have hsz : w1.heap.size = w.heap.size + 2 := by rw [hw1]; simp
  have c1 := gright_any t w1 (hI.kept hbel) hb
  rw [gright_rgt] at c1
  have c2 : ∀ (u : World), Below w.heap.size w u → Calls Try.prog 26 #[.agg (ndcells t).toArray, .string ⟨#[]⟩] u (RtsPost [] (rts t) u) := fun (u : World) (hu : Below w.heap.size w u) => routes_any 1000000000 (by omega) (SizeOf.sizeOf t) t (Nat.le_refl _) [] u (hI.kept hu) (by simp; omega)
  have c3 := fun (u : World) (hu : Below w.heap.size w u) (l : List Rt) (a : Option Addr) (L c : Nat) (hl : l.length ≤ 1048576) (ho : Ord l) (h : RowOf rcells 2 u (.slice a L c) l) (h32 : kn ≤ 32) => routePut_any a ka va L c kn kc vn vc l key v h.fits.1.symm (by have := h.fits.1; omega) ho hkn (by omega) hvn u h (hk.below hu) (hv.below hu)
  have hKl := ndcells_len t
  have hpf := fun (hr : rgt 0 t = true) => put_fine hr
  have hlen := fun l (h : rts t = some l) => rts_len h
  have hor := fun l (h : rts t = some l) => ord_rts (SizeOf.sizeOf t) t (Nat.le_refl _) l h
  obtain ⟨K, hK⟩ : ∃ K, K = ndcells t := ⟨_, rfl⟩
  simp only [← hK] at c1 c2 hKl hz hw1 ⊢
  have r1 := hz.all0
  have Hw1 := Lib.hid hw1
  have C1 := Lib.hid c1
  have HKl := Lib.hid hKl
  have Hz := Lib.hid hz
  have Hkn := Lib.hid hkn
  have Hvn := Lib.hid hvn
  have hone : ∀ u ∈ ndcells zN, u.oneCell' = true := by intro u hu; simp [zcells] at hu; rcases hu with rfl | rfl <;> rfl
  have hzl : (ndcells zN).length = 4 := rfl
  have hwe : w1 = (w.alloc (.cells K.toArray 25)).alloc (.cells #[.int .i64 0, .slice none 0 0, .slice none 0 0, .slice none 0 0] 25) := by rw [hw1]; rfl
  have Hwe := Lib.hid hwe
  have Hbb := Lib.hid hb
  clear hw1 hR c1 hK hKl hz hkn hvn hI hwe hk hv hb
  cases hrt : rgt 0 t with
  | false =>
    have hRf : R = (nP, 1) := by rw [HR.out, if_pos hrt]
    subst hRf
    rw [hrt] at C1
    clear c2 c3 hpf hlen hor
    go_enter Try.func8, Try.ntmps8
    go_wp2_with (first
      | (refine wpList_loadW (o := ⟨some 11, _, _, _, _, _⟩) 25 (.tmp 3) (by rfl) w.heap.size 0 (by rfl) aggNode HKl.out (by rw [← Hwe.out]; exact r1) (by rfl) ?_)
      | (go_at_call 24; rw [← Hwe.out]; (with_reducible refine C1.out.mono ?_); rintro e w2 ⟨rfl, b2⟩; have bb2 := Below.then hbel b2; have zz2 := hz6.kept b2)
      | ((with_reducible show wpList _ _ _ (⟨none, Op.store _ _ (Operand.tmp 14), _, _, _, _⟩ :: _) _ _); refine wpList_storeA (o := ⟨none, _, _, _, _, _⟩) (by rfl) 25 (.tmp 6) (.tmp 14) (by rfl) (w.heap.size + 1) (ndcells zN) (by rfl) (by rfl) aggNode zz2 hzl hzl hone bb2 (by omega) ?_; intro w4 h4 b4 g4))
    exact bodyPost_ret (v := .tuple #[.agg (ndcells zN).toArray, .int .i64 1]) (results_blk_tmp rfl _ _ (w.heap.size + 1) aggNode h4 hzl rfl rfl) rfl ⟨zN, rfl, (OwnNd.zero w4 0).is, rfl, b4⟩
  | true =>
    rw [hrt] at C1
    have hpe := putError_any ka va kn kc vn vc
    by_cases h32 : 32 < kn ∨ 1024 < vn
    · obtain ⟨E, hE⟩ : ∃ E, E = putE kn vn := ⟨_, rfl⟩
      have hEn : ¬ E = 0 := by
        rw [hE]; unfold putE
        split
        · omega
        · rw [if_pos (by omega)]; omega
      have hRf : R = (nP, E) := by
        rw [HR.out, if_neg (by rw [hrt]; simp), hE]
        unfold putE
        by_cases h : 32 < kn
        · rw [if_pos h, if_pos h]
        · rw [if_neg h, if_neg h, if_pos (by omega), if_pos (by omega)]
      subst hRf
      rw [← hE] at hpe
      have Hpe := Lib.hid hpe
      have hEz : (E == 0) = false := beq_eq_false_iff_ne.2 hEn
      clear h32 c2 c3 hpf hlen hor hpe hE
      go_enter Try.func8, Try.ntmps8
      go_wp2_with (first
        | (refine wpList_loadW (o := ⟨some 11, _, _, _, _, _⟩) 25 (.tmp 3) (by rfl) w.heap.size 0 (by rfl) aggNode HKl.out (by rw [← Hwe.out]; exact r1) (by rfl) ?_)
        | (go_at_call 24; rw [← Hwe.out]; (with_reducible refine C1.out.mono ?_); rintro e w2 ⟨rfl, b2⟩; have bb2 := Below.then hbel b2; have zz2 := hz6.kept b2)
        | (go_at_call 25; (with_reducible refine (Hpe.out _).mono ?_); rintro e w3 ⟨rfl, rfl⟩)
        | ((with_reducible show wpList _ _ _ (⟨none, Op.store _ _ (Operand.tmp 20), _, _, _, _⟩ :: _) _ _); refine wpList_storeA (o := ⟨none, _, _, _, _, _⟩) (by rfl) 25 (.tmp 6) (.tmp 20) (by rfl) (w.heap.size + 1) (ndcells zN) (by rfl) (by rfl) aggNode zz2 hzl hzl hone bb2 (by omega) ?_; intro w4 h4 b4 g4))
      exact bodyPost_ret (v := .tuple #[.agg (ndcells zN).toArray, .int .i64 E]) (results_blk_tmp rfl _ _ (w.heap.size + 1) aggNode h4 hzl rfl rfl) rfl ⟨zN, rfl, (OwnNd.zero w4 0).is, rfl, b4⟩
    · have hEz : putE kn vn = 0 := by unfold putE; rw [if_neg (by omega), if_neg (by omega)]
      rw [hEz] at hpe
      have h32n : kn ≤ 32 := by omega
      have hv24 : vn ≤ 1024 := by omega
      obtain ⟨l, hl, hg, hfi⟩ := hpf hrt
      have hRf : R = (putQ (clN t) (halvesL key) v, 0) := by rw [HR.out, if_neg (by rw [hrt]; simp), if_neg (by omega), if_neg (by omega)]
      subst hRf
      have hll := hlen l hl
      have hbb := Hbb.out
      have ho := hor l hl
      rw [hl] at c2
      have c22 : ∀ (u : World), Below w.heap.size w u → Calls Try.prog 26 #[.agg K.toArray, .string ⟨#[]⟩] u (fun e w' => Below u.heap.size u w' ∧ ∃ (a : Option Addr) (n c : Nat), e = .returned (.tuple #[.slice a n c, .bool true]) ∧ RowOf rcells 2 w' (.slice a n c) (pre [] l)) := c2
      rw [pre_nil] at c22
      have c4 := fun (u : World) (a : Option Addr) (L c : Nat) (h : RowOf rcells 2 u (.slice a L c) (rputP l (halvesL key) v)) => grown_put l (clN t) hg (fun r hr => by have := hfi r hr; unfold fineP at this; omega) ho key v (by have := Hkn.out; omega) (by have := Hvn.out; omega) (by omega) a L c u h
      have c33 := fun (u : World) (hu : Below w.heap.size w u) (a : Option Addr) (L c : Nat) (h : RowOf rcells 2 u (.slice a L c) l) => c3 u hu l a L c (by omega) ho h h32n
      obtain ⟨Q, hQ⟩ : ∃ Q, Q = rputP l (halvesL key) v := ⟨_, rfl⟩
      obtain ⟨G, hG⟩ : ∃ G, G = putQ (clN t) (halvesL key) v := ⟨_, rfl⟩
      simp only [← hQ] at c33 c4
      simp only [← hG] at c4 ⊢
      have C2 := Lib.hid c22
      have C3 := Lib.hid c33
      have C4 := Lib.hid c4
      have Hpe := Lib.hid hpe
      have Hsz := Lib.hid hsz
      clear hsz h32 c2 c22 c3 c33 c4 hpf hlen hor hpe hEz h32n hv24 hl hg hfi hll hbb ho hQ hG HR hrt
      go_enter Try.func8, Try.ntmps8
      go_wp2_with (first
        | (refine wpList_loadW (o := ⟨some 11, _, _, _, _, _⟩) 25 (.tmp 3) (by rfl) w.heap.size 0 (by rfl) aggNode HKl.out (by rw [← Hwe.out]; exact r1) (by rfl) ?_)
        | (go_at_call 24; rw [← Hwe.out]; (with_reducible refine C1.out.mono ?_); rintro e w2 ⟨rfl, b2⟩; have bb2 := Below.then hbel b2; have zz2 := hz6.kept b2; have r2 := (Hz.out.kept b2).all0)
        | (go_at_call 25; (with_reducible refine (Hpe.out _).mono ?_); rintro e w3 ⟨rfl, rfl⟩)
        | (refine wpList_loadW (o := ⟨some 23, _, _, _, _, _⟩) 25 (.tmp 3) (by rfl) w.heap.size 0 (by rfl) aggNode HKl.out r2 (by rfl) ?_)
        | (go_at_call 26; (with_reducible refine (C2.out _ bb2).mono ?_); rintro e w4 ⟨b4, a4, n4, c4, rfl, h4⟩; have bb4 := Below.then bb2 b4; have zz4 := zz2.kept b4)
        | (go_at_call 28; (with_reducible refine (C3.out _ bb4 _ _ _ h4).mono ?_); rintro e w5 ⟨a5, n5, c5, rfl, h5, b5⟩; have bb5 := Below.then bb4 b5; have zz5 := zz4.kept b5)
        | (go_at_call 27; (with_reducible refine (C4.out _ _ _ _ h5).mono ?_); rintro e w6 ⟨y, rfl, oy, ey, b6⟩; have bb6 := Below.then bb5 b6; have zz6 := zz5.kept b6; have hone2 := oy.is.one; have hlen := ndcells_len y)
        | ((with_reducible show wpList _ _ _ (⟨none, Op.store _ _ (Operand.tmp 31), _, _, _, _⟩ :: _) _ _); refine wpList_storeA (o := ⟨none, _, _, _, _, _⟩) (by rfl) 25 (.tmp 6) (.tmp 31) (by rfl) (w.heap.size + 1) (ndcells y) (by rfl) (by rfl) aggNode zz6 hlen hzl hone2 bb6 (by omega) ?_; intro w7 h7 b7 g7))
      have hs5 : w.heap.size + 1 < w5.heap.size := zz5.lt
      exact bodyPost_ret (v := .tuple #[.agg (ndcells y).toArray, .int .i64 0]) (results_blk_tmp rfl _ _ (w.heap.size + 1) aggNode h7 hlen rfl rfl) rfl ⟨y, rfl, (oy.off g7 hs5).is, ey, b7⟩
end Go.Proofs.Ytcgpjceopnfahaa
