/- The reference's GGet. -/
import Derived.Test.YtikndlkfmjhgdaaGet5
set_option linter.unusedSimpArgs false
set_option linter.unusedVariables false
namespace Go.Proofs.Ytikndlkfmjhgdaa
open Go.RowKit
theorem fd_first {l : List Rt} {H : List UInt8} (k : Nat) (hk : k < l.length) (h : ∀ j (hj : j < l.length), j < k → l[j].1 ≠ H) (he : l[k].1 = H) : fd l H = some l[k].2 := by
  have h1 : l = l.take k ++ (l[k] :: l.drop (k + 1)) := by rw [List.getElem_cons_drop, List.take_append_drop]
  have h2 : fd (l.take k) H = none := fd_none (fun r hr => by
    obtain ⟨j, hj⟩ := List.getElem?_of_mem hr
    obtain ⟨h3, h4⟩ := List.getElem?_eq_some_iff.1 hj
    rw [List.length_take] at h3
    rw [List.getElem_take] at h4
    rw [← h4]
    exact h j (by omega) (by omega))
  have h3 : fd (l[k] :: l.drop (k + 1)) H = some l[k].2 := by
    unfold fd
    rw [List.find?_cons]
    have : (l[k].1 == H) = true := by rw [beq_iff_eq]; exact he
    rw [this]; rfl
  conv => lhs; rw [h1]
  rw [fd_app, h2, h3]; rfl
set_option maxHeartbeats 2000000 in
set_option maxRecDepth 100000 in
theorem gget_any (t : Nd) (ka : Option Addr) (kn kc : Nat) (key : List UInt8) (hkn : key.length = kn) (w : World) (hI : IsNd w t) (hb : bulkN t ≤ 1048576) (hk : Bytes w (.slice ka kn kc) key) :
    Calls Try.prog 29 #[.agg (ndcells t).toArray, .slice ka kn kc] w (GPost (gg t key) w) := by
  obtain ⟨R, hR⟩ : ∃ R, R = gg t key := ⟨_, rfl⟩
  rw [← hR]
  unfold gg at hR
  have HR := Lib.hid hR
  obtain ⟨w1, hw1⟩ : ∃ w1, w1 = w.alloc (.cells (ndcells t).toArray 32) := ⟨_, rfl⟩
  have hz : Blk 32 w1 w.heap.size (ndcells t) := by rw [hw1]; exact Blk.new w _ _
  have hbel : Below w.heap.size w w1 := by rw [hw1]; exact (Below.refl _ _).alloc (Nat.le_refl _) _
  have c1 := gright_any t w1 (hI.kept hbel) hb
  rw [gright_rgt] at c1
  have c2 : ∀ (u : World), Below w.heap.size w u → Calls Try.prog 69 #[.agg (ndcells t).toArray, .string ⟨#[]⟩] u (RtsPost [] (rts t) u) := fun (u : World) (hu : Below w.heap.size w u) => routes_any 1000000000 (Nat.le_refl _) (SizeOf.sizeOf t) t (Nat.le_refl _) [] u (hI.kept hu) (by simp; omega)
  have c3 := fun (u : World) (hu : Below w.heap.size w u) (h32 : kn ≤ 32) => nhalves_any ka kc key u (by rw [hkn]; exact hk.below hu) (by omega)
  have hKl := ndcells_len t
  have hrr := fun (hr : rgt 0 t = true) => rgt_grw (SizeOf.sizeOf t) t (Nat.le_refl _) 0 hr
  have hgr := fun (hr : rgt 0 t = true) l (hl : rts t = some l) => get_rts (SizeOf.sizeOf t) t (Nat.le_refl _) 0 hr l hl (halvesL key) (halves_small key)
  have hlen := fun l (h : rts t = some l) => rts_len h
  obtain ⟨K, hK⟩ : ∃ K, K = ndcells t := ⟨_, rfl⟩
  obtain ⟨P0, hP0⟩ : ∃ P, P = halvesL key := ⟨_, rfl⟩
  obtain ⟨G, hG⟩ : ∃ P, P = getP t P0 := ⟨_, rfl⟩
  simp only [← hP0] at c3 HR hgr
  simp only [← hG] at HR hgr
  rw [hkn] at c3
  simp only [← hK] at c1 c2 hKl hz hw1 ⊢
  have r1 := hz.all0
  have Hw1 := Lib.hid hw1
  have C1 := Lib.hid c1
  have C3 := Lib.hid c3
  have HKl := Lib.hid hKl
  have Hz := Lib.hid hz
  have Hkn := Lib.hid hkn
  have Hk := Lib.hid hk
  clear hw1 hR c1 c3 hK hP0 hG hKl hz hkn hI hk
  cases hrt : rgt 0 t with
  | false =>
    have hRf : R = ([], 1) := by rw [HR.out, if_pos hrt]
    subst hRf
    rw [hrt] at C1
    clear c2 hrr hgr hlen hb
    go_enter Try.func29, Try.ntmps29
    go_wp2_with (first
      | (refine wpList_loadW (o := ⟨some 10, _, _, _, _, _⟩) 32 (.tmp 2) (by rfl) w.heap.size 0 (by rfl) aggNode HKl.out (by rw [← Hw1.out]; exact r1) (by rfl) ?_)
      | (go_at_call 27; rw [← Hw1.out]; (with_reducible refine C1.out.mono ?_); rintro e w2 ⟨rfl, b2⟩; have bb2 := Below.then hbel b2))
    go_ret2
    exact ⟨none, 0, 0, rfl, bb2, RowOf.nil b8 1 _⟩
  | true =>
    rw [hrt] at C1
    by_cases h32 : 32 < kn
    · have hRf : R = ([], 3) := by rw [HR.out, if_neg (by rw [hrt]; simp), if_pos (by rw [Hkn.out]; exact h32)]
      subst hRf
      have h32i : (32 : Int) < (kn : Int) := by omega
      clear h32 c2 hrr hgr hlen hb
      go_enter Try.func29, Try.ntmps29
      go_wp2_with (first
        | (refine wpList_loadW (o := ⟨some 10, _, _, _, _, _⟩) 32 (.tmp 2) (by rfl) w.heap.size 0 (by rfl) aggNode HKl.out (by rw [← Hw1.out]; exact r1) (by rfl) ?_)
        | (go_at_call 27; rw [← Hw1.out]; (with_reducible refine C1.out.mono ?_); rintro e w2 ⟨rfl, b2⟩; have bb2 := Below.then hbel b2))
      go_ret2
      exact ⟨none, 0, 0, rfl, bb2, RowOf.nil b8 1 _⟩
    · have hRf : R = (G, 0) := by rw [HR.out, if_neg (by rw [hrt]; simp), if_neg (by rw [Hkn.out]; exact h32)]
      subst hRf
      have h32i : ¬ (32 : Int) < (kn : Int) := by omega
      have h32n : kn ≤ 32 := by omega
      obtain ⟨l, hl, hfi, _⟩ := hrr hrt
      have hGl := hgr hrt l hl
      have hll := hlen l hl
      rw [hl] at c2
      have c22 : ∀ (u : World), Below w.heap.size w u → Calls Try.prog 69 #[.agg K.toArray, .string ⟨#[]⟩] u (fun e w' => Below u.heap.size u w' ∧ ∃ (a : Option Addr) (n c : Nat), e = .returned (.tuple #[.slice a n c, .bool true]) ∧ RowOf rcells 2 w' (.slice a n c) (pre [] l)) := c2
      rw [pre_nil] at c22
      have C2 := Lib.hid c22
      have H32 := Lib.hid h32n
      have HGl := Lib.hid hGl
      have Hfi := Lib.hid hfi
      have hl6 : l.length ≤ 2000000 := by omega
      clear h32 h32n hrt c2 c22 hrr hgr hlen hGl hfi hl hll hb
      go_enter Try.func29, Try.ntmps29
      go_wp2_with (first
        | (refine wpList_loadW (o := ⟨some 10, _, _, _, _, _⟩) 32 (.tmp 2) (by rfl) w.heap.size 0 (by rfl) aggNode HKl.out (by rw [← Hw1.out]; exact r1) (by rfl) ?_)
        | (go_at_call 27; rw [← Hw1.out]; (with_reducible refine C1.out.mono ?_); rintro e w2 ⟨rfl, b2⟩; have bb2 := Below.then hbel b2; have r2 := (Hz.out.kept b2).all0)
        | (refine wpList_loadW (o := ⟨some 17, _, _, _, _, _⟩) 32 (.tmp 2) (by rfl) w.heap.size 0 (by rfl) aggNode HKl.out r2 (by rfl) ?_)
        | (go_at_call 69; (with_reducible refine (C2.out _ bb2).mono ?_); rintro e w3 ⟨b3, a, n, c, rfl, hrow⟩; have bb3 := Below.then bb2 b3))
      have hnl := hrow.fits.1
      have hn6 : n ≤ 2000000 := by omega
      have Hnl := Lib.hid hnl
      clear hnl hl6
      go_loopw [23] (fun ix wr => ∃ k : Nat, k ≤ n ∧ ix = .int .i64 (k : Int) ∧ (∀ j (hj : j < l.length), j < k → l[j].1 ≠ P0) ∧ Below w3.heap.size w3 wr) (fun ix _ => n - (intOf ix).toNat)
      case atStart => exact ⟨0, by omega, rfl, fun j _ h => by omega, Below.refl _ _⟩
      case round =>
        obtain ⟨k, hkk, rfl, hall, hwr⟩ := hrel
        have hbr := Below.then bb3 hwr
        by_cases hlt : k < n
        · have hki : (k : Int) < (n : Int) := by omega
          have hkl : k < l.length := by rw [← Hnl.out]; exact hlt
          obtain ⟨b, off, rfl, hrr⟩ := RowOf.range (f := rcells) (size := 2) (fun _ => rfl) (hrow.below hwr) k hkl
          have hfs := fd_first k hkl hall
          have hnx : l[k].1 ≠ P0 → ∀ j (hj : j < l.length), j < k + 1 → l[j].1 ≠ P0 := by
            intro he j hj hjk
            by_cases e : j = k
            · subst e; exact he
            · exact hall j hj (by omega)
          have hy2l := (Hfi.out _ (List.getElem_mem hkl)).2.2.2
          obtain ⟨y, hy⟩ : ∃ y, y = l[k] := ⟨_, rfl⟩
          rw [← hy] at hrr hfs hnx hy2l
          obtain ⟨y1, y2⟩ := y
          dsimp only at hfs hnx hy2l
          have hr2 : wr.rangeAt b (off + k * 2) [.string ⟨y1.toArray⟩, .string ⟨y2.toArray⟩] := hrr
          have n0 : ∀ (g : Nat) (u : World), Blk 116 u g [.string ⟨y1.toArray⟩, .string ⟨y2.toArray⟩] → u.cell? ⟨g, 0, none⟩ = some (.string ⟨y1.toArray⟩) ∧ u.cell? ⟨g, 1, none⟩ = some (.string ⟨y2.toArray⟩) := fun g u hb => ⟨(hb.cell 0).trans rfl, (hb.cell 1).trans rfl⟩
          have N0 := Lib.hid n0
          have bA : Below wr.heap.size wr (wr.alloc (.cells #[.string ByteArray.empty, .string ByteArray.empty] 116)) := (Below.refl _ _).alloc (Nat.le_refl _) _
          have ch := fun u (hu : Below wr.heap.size wr u) => C3.out u (Below.then hbr hu) H32.out
          obtain ⟨q, hq⟩ : ∃ q, q = (y1 == P0) := ⟨_, rfl⟩
          have hq' := hq.symm
          have Hq := Lib.hid hq
          have Ch := Lib.hid ch
          have Hfs := Lib.hid hfs
          have Hnx := Lib.hid hnx
          have Hr2 := Lib.hid hr2
          clear n0 hy hrr hfs hnx hr2 hall hlt hq ch
          go_wp2_with (first
            | (refine wpList_loadW (o := ⟨some 26, _, _, _, _, _⟩) 116 (.tmp 25) (by rfl) b (off + k * 2) (by rfl) aggRoute (by rfl) Hr2.out (by rfl) ?_)
            | ((with_reducible show wpList _ _ _ (⟨none, Op.store _ _ (Operand.tmp 26), _, _, _, _⟩ :: _) _ _); refine wpList_storeA (o := ⟨none, _, _, _, _, _⟩) (by rfl) 116 (.tmp 9) (.tmp 26) (by rfl) wr.heap.size [.string ⟨y1.toArray⟩, .string ⟨y2.toArray⟩] (by rfl) (by rfl) aggRoute (Blk.new wr 116 [.string ByteArray.empty, .string ByteArray.empty]) (by rfl) (by rfl) (by intro u hu; simp at hu; rcases hu with rfl | rfl <;> rfl) bA (Nat.le_refl _) ?_; intro w5 h7 b5 _; obtain ⟨i0, i1⟩ := N0.out _ _ h7; have bb5 := Below.then hbr b5))
          have j0 := fun u : Ext w5 => u.cell i0
          refine wp_region_typed w5 6 (by kernel_rfl) (by kernel_rfl) (Below.refl _ _) ?_; simp only [List.take_succ_cons, List.take_zero, List.take_nil]
          iterate 3 (refine wpX_step (by rfl) (fun K hK => ?_); go_simp; first | (refine hK _ ?_; clear hK K) | (apply Exists.intro; refine ⟨fun _ => ?_, hK _ ?_⟩; fail; clear hK K))
          refine wpX_rel 30 (SlG P0) rfl (of_decide_eq_true rfl) (SlG.mono _) (fun w6 hw6 => ?_) ?_
          · change forallRel w6 [] _ _
            simp only [forallRel]
            refine ⟨rfl, ?_⟩
            go_simp
            refine (Ch.out w6 (Below.then b5 hw6)).mono ?_
            rintro e w7 ⟨v, rfl, o7, b7⟩
            obtain ⟨a7, c7, rfl, _⟩ := o7.form
            exact ⟨_, rfl, ⟨a7, _, c7, rfl, o7.row⟩, b7⟩
          refine wpX_eq (.string ⟨P0.toArray⟩) (fun w6 hw6 => ?_) ?_
          · change forallRel w6 [(30, _)] _ _
            rintro v30 ⟨a7, n7, c7, rfl, h7⟩
            have c1 := run_str (P := Try.prog) (src := 24) (dst := 9) elU8.ht (by kernel_rfl) (by kernel_rfl) h7
            simp only [forallRel]
            refine ⟨rfl, ?_⟩
            go_simp
            exact Below.refl _ _
          (refine wpX_step (by rfl) (fun K hK => ?_); go_simp; first | (refine hK _ ?_; clear hK K) | (apply Exists.intro; refine ⟨fun _ => ?_, hK _ ?_⟩; fail; clear hK K))
          refine wpX_nil ?_
          intro u2 hb2 v30 _
          simp only [forallRel]
          change wpList _ _ _ [] _ _
          simp only [Act.put, List.setIfInBounds_toArray, List.set_cons_zero, List.set_cons_succ]
          have i12 : u2.cell? ⟨wr.heap.size, 1, none⟩ = some (.string ⟨y2.toArray⟩) := by rw [hb2.cell (World.block_lt_of_cell? w5 _ i1)]; exact i1
          have bb2' := Below.then bb5 hb2
          cases q with
          | true =>
            have hGe : y2 = G := by rw [HGl.out, Hfs.out (beq_iff_eq.1 Hq.out.symm)]; rfl
            subst hGe
            go_wp2_with (refine wpList_bytesOf (o := ⟨some 35, _, _, _, _, _⟩) (by rfl) 9 24 (.tmp 34) (by rfl) (by kernel_rfl) elU8.ht (by kernel_rfl) y2 (by rfl) (by unfold maxLen; omega) ?_; intro v9 w9 h9 b9; obtain ⟨a9, c9, rfl, _, _⟩ := h9.form; have bb9 := Below.then bb2' b9)
            go_ret2
            exact ⟨a9, _, c9, rfl, bb9, h9⟩
          | false =>
            have hnx' := Hnx.out (beq_eq_false_iff_ne.1 Hq.out.symm)
            have Hnx' := Lib.hid hnx'
            clear hnx'
            go_wp2_with fail
            go_roundw
            case rel => exact ⟨k + 1, by omega, by go_num, Hnx'.out, Below.then hwr (Below.then b5 hb2)⟩
            case measure => simp [intOf]; omega
        · obtain rfl : k = n := by omega
          have hGe : [] = G := by
            rw [HGl.out, fd_none (fun r hr => by
              obtain ⟨j, hj⟩ := List.getElem?_of_mem hr
              obtain ⟨h3, h4⟩ := List.getElem?_eq_some_iff.1 hj
              rw [← h4]
              exact hall j h3 (by rw [Hnl.out]; exact h3))]
            rfl
          subst hGe
          clear hall hlt
          go_wp2_with fail
          go_ret2
          exact ⟨none, 0, 0, rfl, hbr, RowOf.nil b8 1 _⟩
end Go.Proofs.Ytikndlkfmjhgdaa
