/- tree.Put. -/
import Derived.Test.YtcgpjceopnfahaaPut16
import Derived.Test.YtcgpjceopnfahaaGet5
set_option linter.unusedSimpArgs false
set_option linter.unusedVariables false
namespace Go.Proofs.Ytcgpjceopnfahaa
open Go.RowKit
theorem isnv_of : ∀ (n : Nat) (t : Nd), SizeOf.sizeOf t ≤ n → ∀ d w, IsNd w t → rgt d t = true → IsNv w t
  | 0, .mk kd pv p vv v kv ks, h => by simp at h
  | n + 1, .mk kd pv p vv v kv ks, h => by
    intro d w hI hr
    have hks : ∀ k ∈ ks, ∀ d, rgt d k = true → IsNv w k := by
      intro k hk d hrk
      have := List.sizeOf_lt_of_mem hk
      simp only [Nd.mk.sizeOf_spec] at h
      exact isnv_of n k (by omega) d w (hI.inv.2.2.2 k hk) hrk
    obtain ⟨hp, hv, hk, hall⟩ := hI.inv
    unfold rgt at hr
    by_cases h0 : kd = 0
    · subst h0
      exact .none _ _ _ _ _ _
    · rw [if_neg h0] at hr
      by_cases h1 : kd = 1
      · subst h1
        exact .leaf _ _ _ _ _ _ hp hv
      · rw [if_neg h1] at hr
        by_cases h2 : kd = 2
        · subst h2
          rw [if_pos rfl] at hr
          simp only [Bool.and_eq_true, decide_eq_true_eq] at hr
          obtain ⟨⟨⟨⟨_, _⟩, hl⟩, hk3⟩, hrk⟩ := hr
          obtain ⟨k, rfl⟩ := List.length_eq_one_iff.1 hl
          simp only [List.getElem?_cons_zero, Option.map_some, Option.getD_some] at hk3
          rw [rgtL_iff] at hrk
          exact .road _ _ _ _ _ _ hp hk3 (hks k (List.mem_singleton.2 rfl) _ (hrk k (List.mem_singleton.2 rfl)))
        · rw [if_neg h2] at hr
          by_cases h3 : kd = 3
          · subst h3
            rw [if_pos rfl] at hr
            simp only [Bool.and_eq_true, decide_eq_true_eq] at hr
            obtain ⟨⟨⟨⟨hl, _⟩, _⟩, hrk⟩, _⟩ := hr
            rw [rgtL_iff] at hrk
            exact .fork _ _ _ _ _ _ hv hl (fun k hk => hks k hk _ (hrk k hk))
          · rw [if_neg h3] at hr
            simp at hr
/-- what a tree of the program's is handed back as -/
def PnPost (R : Pn × Int) (w : World) (e : Ending) (w' : World) : Prop := ∃ y : Nd, e = .returned (.tuple #[.agg (ndcells y).toArray, .int .i64 R.2]) ∧ IsNd w' y ∧ erN y = R.1 ∧ Below w.heap.size w w'
def pp (t : Nd) (key v : List UInt8) : Pn × Int := if rgt 0 t = false then (nP, 1) else if 32 < key.length then (nP, 3) else if 1024 < v.length then (nP, 2) else (putQ (clN t) (halvesL key) v, 0)
theorem halvesL_len (key : List UInt8) : (halvesL key).length = 2 * key.length := by
  have := halves_len key
  omega
/-- what grows of a right tree's routes with that one -/
theorem put_fine {t : Nd} (hr : rgt 0 t = true) : ∃ l, rts t = some l ∧ Grows l (clN t) ∧ ∀ r ∈ l, fineP 0 r := by
  obtain ⟨l, h1, h2⟩ := rgt_grows (SizeOf.sizeOf t) t (Nat.le_refl _) 0 hr
  obtain ⟨l', h1', h3, _⟩ := rgt_grw (SizeOf.sizeOf t) t (Nat.le_refl _) 0 hr
  rw [h1] at h1'
  cases h1'
  exact ⟨l, h1, h2, h3⟩
set_option maxHeartbeats 4000000 in
set_option maxRecDepth 100000 in
theorem tree_put_any (t : Nd) (ka va : Option Addr) (kn kc vn vc : Nat) (key v : List UInt8) (hkn : key.length = kn) (hvn : v.length = vn) (w : World) (hI : IsNd w t) (hb : bulkN t ≤ 100000000000) (hk : Bytes w (.slice ka kn kc) key) (hv : Bytes w (.slice va vn vc) v) :
    Calls Try.prog 7 #[.agg (ndcells t).toArray, .slice ka kn kc, .slice va vn vc] w (PnPost (pp t key v) w) := by
  obtain ⟨R, hR⟩ : ∃ R, R = pp t key v := ⟨_, rfl⟩
  rw [← hR]
  unfold pp at hR
  rw [hkn, hvn] at hR
  have HR := Lib.hid hR
  obtain ⟨w1, hw1⟩ : ∃ w1, w1 = (w.alloc (.cells (ndcells t).toArray 25)).alloc (.cells (ndcells zN).toArray 25) := ⟨_, rfl⟩
  have hz : Blk 25 w1 w.heap.size (ndcells t) := by rw [hw1]; exact (Blk.new w _ _).alloc _
  have hz6 : Blk 25 w1 (w.heap.size + 1) (ndcells zN) := by
    have := Blk.new (w.alloc (.cells (ndcells t).toArray 25)) 25 (ndcells zN)
    simp only [World.size_alloc] at this
    rw [hw1]; exact this
  have hbel : Below w.heap.size w w1 := by rw [hw1]; exact ((Below.refl _ _).alloc (Nat.le_refl _) _).alloc (by simp) _
  have hsz : w1.heap.size = w.heap.size + 2 := by rw [hw1]; simp
  have c1 := tree_right_any t w1 (hI.kept hbel) hb
  have c2 := fun (u : World) (hu : Below w.heap.size w u) (hr : rgt 0 t = true) => inner_any (SizeOf.sizeOf t) t (Nat.le_refl _) 0 u (hI.kept hu) hr
  have c3 := fun (u : World) (hu : Below w.heap.size w u) (h32 : kn ≤ 32) => halves_any ka kc key u (by rw [hkn]; exact hk.below hu) (by omega)
  have hhl := halvesL_len key
  have c4 := fun (qa : Option Addr) (qn qc : Nat) (u : World) (hu : Below w.heap.size w u) (hr : rgt 0 t = true) (h32 : kn ≤ 32) (hq : Bytes u (.slice qa qn qc) (halvesL key)) => (by
    obtain ⟨l, h1, h2, h3⟩ := put_fine hr
    exact put_any (SizeOf.sizeOf t) t (Nat.le_refl _) l h2 (fun r hr => by have := (h3 r hr).2.1; omega) qa va qn qc vn vc (halvesL key) v u hq.fits.1.symm hvn (by have := hq.fits.1; omega) (halves_small key) (isnv_of (SizeOf.sizeOf t) t (Nat.le_refl _) 0 u (hI.kept hu) hr) hq (hv.below hu) : Calls Try.prog 21 #[nv t, .slice qa qn qc, .slice va vn vc] u (NvPost (putQ (clN t) (halvesL key) v) u))
  have c5 := fun (x : Nd) (u : World) (hx : IsNv u x) (hr : rgt 0 t = true) (h32 : kn ≤ 32) (hv32 : vn ≤ 1024) (hc : clN x = putQ (clN t) (halvesL key) v) => (by
    obtain ⟨l, h1, h2, h3⟩ := put_fine hr
    have hg := put_grows h2 (halvesL key) v (halves_small key)
    rw [← hc] at hg ⊢
    refine (show_all (SizeOf.sizeOf x) x (Nat.le_refl _) _ hg (fun r hr => ?_)).1 u hx
    rcases rput_mem hr with hr | rfl
    · have := h3 r hr
      unfold fineP at this
      omega
    · constructor
      · show (halvesL key).length ≤ 2000000
        omega
      · show v.length ≤ 1000000000
        omega : Calls Try.prog 20 #[nv x] u (GrwPost (putQ (clN t) (halvesL key) v) u))
  have hKl := ndcells_len t
  obtain ⟨K, hK⟩ : ∃ K, K = ndcells t := ⟨_, rfl⟩
  obtain ⟨V, hV⟩ : ∃ V, V = nv t := ⟨_, rfl⟩
  obtain ⟨P0, hP0⟩ : ∃ P, P = halvesL key := ⟨_, rfl⟩
  obtain ⟨G, hG⟩ : ∃ P, P = putQ (clN t) P0 v := ⟨_, rfl⟩
  simp only [← hP0] at c3 c4 c5 HR
  simp only [← hG] at c4 c5 HR
  rw [hkn] at c3
  simp only [← hV] at c2 c4
  simp only [← hK] at c1 c2 hKl hz hw1 ⊢
  have r1 := hz.all0
  have Hw1 := Lib.hid hw1
  have C1 := Lib.hid c1
  have C2 := Lib.hid c2
  have C3 := Lib.hid c3
  have C4 := Lib.hid c4
  have C5 := Lib.hid c5
  have HKl := Lib.hid hKl
  have Hz := Lib.hid hz
  have hone : ∀ u ∈ ndcells zN, u.oneCell' = true := by intro u hu; simp [zcells] at hu; rcases hu with rfl | rfl <;> rfl
  have hzl : (ndcells zN).length = 4 := rfl
  have hwe : w1 = (w.alloc (.cells K.toArray 25)).alloc (.cells #[.int .i64 0, .slice none 0 0, .slice none 0 0, .slice none 0 0] 25) := by rw [hw1]; rfl
  have Hwe := Lib.hid hwe
  clear hw1 hR c1 c2 c3 c4 c5 hK hV hP0 hG hKl hz hkn hvn hhl hI hk hb hv hwe
  cases hrt : rgt 0 t with
  | false =>
    have hRf : R = (nP, 1) := by rw [HR.out, if_pos hrt]
    subst hRf
    rw [hrt] at C1
    go_enter Try.func7, Try.ntmps7
    go_wp2_with (first
      | (refine wpList_loadW (o := ⟨some 9, _, _, _, _, _⟩) 25 (.tmp 3) (by rfl) w.heap.size 0 (by rfl) aggNode HKl.out (by rw [← Hwe.out]; exact r1) (by rfl) ?_)
      | (go_at_call 19; rw [← Hwe.out]; (with_reducible refine C1.out.mono ?_); rintro e w2 ⟨rfl, b2⟩; have bb2 := Below.then hbel b2; have zz2 := hz6.kept b2)
      | ((with_reducible show wpList _ _ _ (⟨none, Op.store _ _ (Operand.tmp 12), _, _, _, _⟩ :: _) _ _); refine wpList_storeA (o := ⟨none, _, _, _, _, _⟩) (by rfl) 25 (.tmp 6) (.tmp 12) (by rfl) (w.heap.size + 1) (ndcells zN) (by rfl) (by rfl) aggNode zz2 hzl hzl hone bb2 (by omega) ?_; intro w4 h4 b4 g4))
    exact bodyPost_ret (v := .tuple #[.agg (ndcells zN).toArray, .int .i64 1]) (results_blk_tmp rfl _ _ (w.heap.size + 1) aggNode h4 hzl rfl rfl) rfl ⟨zN, rfl, (OwnNd.zero w4 0).is, rfl, b4⟩
  | true =>
    rw [hrt] at C1
    by_cases h32 : 32 < kn
    · have hRf : R = (nP, 3) := by rw [HR.out, if_neg (by rw [hrt]; simp), if_pos h32]
      subst hRf
      have h32i : (32 : Int) < (kn : Int) := by omega
      clear h32
      go_enter Try.func7, Try.ntmps7
      go_wp2_with (first
        | (refine wpList_loadW (o := ⟨some 9, _, _, _, _, _⟩) 25 (.tmp 3) (by rfl) w.heap.size 0 (by rfl) aggNode HKl.out (by rw [← Hwe.out]; exact r1) (by rfl) ?_)
        | (go_at_call 19; rw [← Hwe.out]; (with_reducible refine C1.out.mono ?_); rintro e w2 ⟨rfl, b2⟩; have bb2 := Below.then hbel b2; have zz2 := hz6.kept b2)
        | ((with_reducible show wpList _ _ _ (⟨none, Op.store _ _ (Operand.tmp 17), _, _, _, _⟩ :: _) _ _); refine wpList_storeA (o := ⟨none, _, _, _, _, _⟩) (by rfl) 25 (.tmp 6) (.tmp 17) (by rfl) (w.heap.size + 1) (ndcells zN) (by rfl) (by rfl) aggNode zz2 hzl hzl hone bb2 (by omega) ?_; intro w4 h4 b4 g4))
      exact bodyPost_ret (v := .tuple #[.agg (ndcells zN).toArray, .int .i64 3]) (results_blk_tmp rfl _ _ (w.heap.size + 1) aggNode h4 hzl rfl rfl) rfl ⟨zN, rfl, (OwnNd.zero w4 0).is, rfl, b4⟩
    · have h32i : ¬ (32 : Int) < (kn : Int) := by omega
      have h32n : kn ≤ 32 := by omega
      by_cases hv24 : 1024 < vn
      · have hRf : R = (nP, 2) := by rw [HR.out, if_neg (by rw [hrt]; simp), if_neg h32, if_pos hv24]
        subst hRf
        have hvi : (1024 : Int) < (vn : Int) := by omega
        clear h32 hv24
        go_enter Try.func7, Try.ntmps7
        go_wp2_with (first
          | (refine wpList_loadW (o := ⟨some 9, _, _, _, _, _⟩) 25 (.tmp 3) (by rfl) w.heap.size 0 (by rfl) aggNode HKl.out (by rw [← Hwe.out]; exact r1) (by rfl) ?_)
          | (go_at_call 19; rw [← Hwe.out]; (with_reducible refine C1.out.mono ?_); rintro e w2 ⟨rfl, b2⟩; have bb2 := Below.then hbel b2; have zz2 := hz6.kept b2)
          | ((with_reducible show wpList _ _ _ (⟨none, Op.store _ _ (Operand.tmp 22), _, _, _, _⟩ :: _) _ _); refine wpList_storeA (o := ⟨none, _, _, _, _, _⟩) (by rfl) 25 (.tmp 6) (.tmp 22) (by rfl) (w.heap.size + 1) (ndcells zN) (by rfl) (by rfl) aggNode zz2 hzl hzl hone bb2 (by omega) ?_; intro w4 h4 b4 g4))
        exact bodyPost_ret (v := .tuple #[.agg (ndcells zN).toArray, .int .i64 2]) (results_blk_tmp rfl _ _ (w.heap.size + 1) aggNode h4 hzl rfl rfl) rfl ⟨zN, rfl, (OwnNd.zero w4 0).is, rfl, b4⟩
      · have hRf : R = (G, 0) := by rw [HR.out, if_neg (by rw [hrt]; simp), if_neg h32, if_neg hv24]
        subst hRf
        have hvi : ¬ (1024 : Int) < (vn : Int) := by omega
        have hvn2 : vn ≤ 1024 := by omega
        have H32 := Lib.hid h32n
        have HV2 := Lib.hid hvn2
        have Hrt := Lib.hid hrt
        have Hsz := Lib.hid hsz
        clear h32 h32n hrt hv24 hvn2 hsz
        go_enter Try.func7, Try.ntmps7
        go_wp2_with (first
          | (refine wpList_loadW (o := ⟨some 9, _, _, _, _, _⟩) 25 (.tmp 3) (by rfl) w.heap.size 0 (by rfl) aggNode HKl.out (by rw [← Hwe.out]; exact r1) (by rfl) ?_)
          | (go_at_call 19; rw [← Hwe.out]; (with_reducible refine C1.out.mono ?_); rintro e w2 ⟨rfl, b2⟩; have bb2 := Below.then hbel b2; have r2 := (Hz.out.kept b2).all0; have zz2 := hz6.kept b2)
          | (refine wpList_loadW (o := ⟨some 23, _, _, _, _, _⟩) 25 (.tmp 3) (by rfl) w.heap.size 0 (by rfl) aggNode HKl.out r2 (by rfl) ?_)
          | (go_at_call 22; (with_reducible refine (C2.out _ bb2 Hrt.out).mono ?_); rintro e w3 ⟨rfl, b3⟩; have bb3 := Below.then bb2 b3; have zz3 := zz2.kept b3)
          | (go_at_call 23; (with_reducible refine (C3.out _ bb3 H32.out).mono ?_); rintro e w4 ⟨v4, rfl, o4, b4⟩; obtain ⟨a4, c4, rfl, _⟩ := o4.form; have bb4 := Below.then bb3 b4; have q4 := o4.row; have zz4 := zz3.kept b4)
          | (go_at_call 21; (with_reducible refine (C4.out _ _ _ _ bb4 Hrt.out H32.out q4).mono ?_); rintro e w5 ⟨x5, rfl, b5, i5, e5⟩; have bb5 := Below.then bb4 b5; have zz5 := zz4.kept b5; have C6 := Lib.hid (C5.out x5 w5 i5 Hrt.out H32.out HV2.out e5); obtain ⟨V5, hV5⟩ : ∃ V, V = nv x5 := ⟨_, rfl⟩; rw [← hV5] at C6; rw [← hV5]; clear hV5 i5 e5)
          | (go_at_call 20; (with_reducible refine C6.out.mono ?_); rintro e w6 ⟨y, rfl, oy, ey, b6⟩; have bb6 := Below.then bb5 b6; have zz6 := zz5.kept b6; have hone2 := oy.is.one; have hlen := ndcells_len y)
          | ((with_reducible show wpList _ _ _ (⟨none, Op.store _ _ (Operand.tmp 29), _, _, _, _⟩ :: _) _ _); refine wpList_storeA (o := ⟨none, _, _, _, _, _⟩) (by rfl) 25 (.tmp 6) (.tmp 29) (by rfl) (w.heap.size + 1) (ndcells y) (by rfl) (by rfl) aggNode zz6 hlen hzl hone2 bb6 (by omega) ?_; intro w7 h7 b7 g7))
        have hs5 : w.heap.size + 1 < w5.heap.size := zz5.lt
        exact bodyPost_ret (v := .tuple #[.agg (ndcells y).toArray, .int .i64 0]) (results_blk_tmp rfl _ _ (w.heap.size + 1) aggNode h7 hlen rfl rfl) rfl ⟨y, rfl, (oy.off g7 hs5).is, ey, b7⟩
end Go.Proofs.Ytcgpjceopnfahaa
