/- The walk of the law LightPlays; slices.Equal of like lists of errors. -/
import Derived.Test.YtgjgokcpampljaaLpB
import Derived.Test.YtgjgokcpampljaaLpC
import Derived.Test.YtgjgokcpampljaaCliB
set_option linter.unusedSimpArgs false
set_option linter.unusedVariables false
namespace Go.Proofs.Ytgjgokcpampljaa
open Go.RowKit
theorem er_at {w : World} {a : Option Addr} {n c : Nat} {l : List Nat} (h : RowOf er 1 w (.slice a n c) l) (k : Nat) (hk : k < l.length) :
    ∃ b off, a = some ⟨b, off, none⟩ ∧ w.cell? ⟨b, off + k, none⟩ = some (.int .i64 (gv l k : Int)) := by
  obtain ⟨b, off, ha, hc⟩ := RowOf.cells (f := er) (size := 1) (fun _ => rfl) h k hk
  exact ⟨b, off, ha, by simpa [er, gv, List.getElem?_eq_getElem hk] using hc 0 _ rfl⟩
set_option maxHeartbeats 1000000 in
set_option maxRecDepth 100000 in
theorem erequal_any (a b : Option Addr) (n c d : Nat) (l : List Nat) (hn : l.length = n) (w : World) (h1 : RowOf er 1 w (.slice a n c) l) (h2 : RowOf er 1 w (.slice b n d) l) :
    Calls Try.prog 23 #[.slice a n c, .slice b n d] w fun e w' => e = .returned (.bool true) ∧ Below w.heap.size w w' := by
  have Hn := Lib.hid hn
  have hsm := h1.small
  unfold maxLen at hsm
  rw [hn] at hsm
  clear hn
  go_enter Try.func23, Try.ntmps23
  go_wp2_with fail
  go_loopw [13] (fun ix wr => ∃ k : Nat, k ≤ n ∧ ix = .int .i64 (k : Int) ∧ Below w.heap.size w wr) (fun ix _ => n - (intOf ix).toNat)
  case atStart => exact ⟨0, by omega, rfl, Below.refl _ _⟩
  case round =>
    obtain ⟨k, hk, rfl, hbel⟩ := hrel
    by_cases hlt : k < n
    · have hki : (k : Int) < (n : Int) := by omega
      obtain ⟨b1, o1, rfl, hc1⟩ := er_at (h1.below hbel) k (by rw [Hn.out]; exact hlt)
      obtain ⟨b2, o2, rfl, hc2⟩ := er_at (h2.below hbel) k (by rw [Hn.out]; exact hlt)
      generalize gv l k = x at *
      have k1 := fun u : Ext wr => u.cell hc1
      have k2 := fun u : Ext wr => u.cell hc2
      have hxx : ((x : Int) != (x : Int)) = false := by simp
      clear hc1 hc2
      go_wp2_with fail
      refine wp_region_typed wr 9 (by kernel_rfl) (by kernel_rfl) (Below.refl _ _) ?_; simp only [List.take_succ_cons, List.take_zero, List.take_nil]
      iterate 9 (refine wpX_step (by rfl) (fun K hK => ?_); go_simp; first | (refine hK _ ?_; clear hK K) | (apply Exists.intro; refine ⟨fun _ => ?_, hK _ ?_⟩; fail; clear hK K))
      refine wpX_nil ?_
      intro u2 hb2
      have hbel2 := Below.then hbel hb2
      change forallRel u2 [] _ _
      simp only [forallRel, List.drop_succ_cons, List.drop_zero, List.drop_nil]
      clear k1 k2
      go_wp2_with fail
      go_roundw
      case rel => exact ⟨k + 1, by omega, by go_num, hbel2⟩
      case measure => simp [intOf]; omega
    · obtain rfl : k = n := by omega
      go_wp2_with fail
      go_ret
      exact ⟨rfl, hbel⟩
set_option maxHeartbeats 4000000 in
set_option maxRecDepth 100000 in
theorem lightPlays_walk (t : Sto) (k : t.In) (us : List UpS) (hus : ∀ x ∈ us, x.val.1.Ok) (ua : Option Addr) (uc : Nat) (hub : us.length ≤ 1099511627776) (V : List Vt) (hvs : V.length ≤ 140737488355328) (hV : ∀ v ∈ V, v.Ok) (va : Option Addr) (vc : Nat) (vs vn : Value) (W : World) (h1 : RowOf u64c 1 W vs t.s) (h2 : RowOf u64c 1 W vn t.n)
    (hu : RowOf upc 206 W (.slice ua us.length uc) us) (hur : ∀ x ∈ us, RowOf u64c 1 W x.val.2 x.val.1.n) (hv : RowOf vtc 33 W (.slice va V.length vc) V) :
    Calls Try.prog 4 #[.agg (hdcs t.hd ++ [vs, vn]).toArray, .slice ua us.length uc, .slice va V.length vc] W fun e w' => e = .returned (.bool true) ∧ Below W.heap.size W w' := by
  have hlC := stc_len k.hd vs vn
  have A1 : Hid (∀ u, Below W.heap.size W u → _) := Lib.hid fun u hb => play_any t k us hus ua us.length uc rfl hub V hvs hV va vc vs vn u (h1.below hb) (h2.below hb) (hu.below hb) (fun x hx => (hur x hx).below hb) (hv.below hb)
  have A2 : Hid (∀ u, Below W.heap.size W u → _) := Lib.hid fun u hb => ltplay_any V hvs va vc W hv us t k hus ua uc hub vs vn u hb h1 h2 hu hur
  have hRk : (plA V t (us.map (·.val.1))).1.In := plA_in k (fun u hu => by obtain ⟨y, hy, rfl⟩ := List.mem_map.1 hu; exact hus y hy)
  obtain ⟨⟨R, L⟩, hR⟩ : ∃ R, plA V t (us.map (·.val.1)) = R := ⟨_, rfl⟩
  rw [hR] at A1 A2 hRk
  change R.In at hRk
  have RK := Lib.hid hRk.hd
  have SAME : Hid (∀ (u : World) (a b c d : Value), RowOf u64c 1 u a R.s → RowOf u64c 1 u b R.n → RowOf u64c 1 u c R.s → RowOf u64c 1 u d R.n → _) := Lib.hid fun u a b c d r1 r2 r3 r4 => samestore_any R hRk.hd a b c d u r1 r2 r3 r4
  obtain ⟨C, hC⟩ : ∃ C, hdcs t.hd ++ [vs, vn] = C := ⟨_, rfl⟩
  rw [hC] at A1 A2 hlC ⊢
  generalize us.length = un at *
  generalize V.length = vl at *
  have z1 : Blk 31 (W.alloc (.cells C.toArray 31)) W.heap.size C := Blk.new W _ _
  have hbel : Below W.heap.size W (W.alloc (.cells C.toArray 31)) := (Below.refl _ _).alloc (Nat.le_refl _) _
  clear k hus hub hvs hV h1 h2 hu hur hv hRk hR hC
  go_enter Try.func4, Try.ntmps4
  go_wp2_with (first
    | ((with_reducible show wpList _ _ _ (⟨some 12, _, _, _, _, _⟩ :: _) _ _); refine wpList_loadA (o := ⟨some 12, _, _, _, _, _⟩) (by rfl) 31 (.tmp 3) (by rfl) W.heap.size (by rfl) aggSt z1 hlC ?_)
    | ((with_reducible show wpList _ _ _ (⟨some 19, _, _, _, _, _⟩ :: _) _ _); refine wpList_loadA (o := ⟨some 19, _, _, _, _, _⟩) (by rfl) 31 (.tmp 3) (by rfl) W.heap.size (by rfl) aggSt z1 hlC ?_)
    | (go_at_call 21; refine (A1.out _ hbel).mono ?_; rintro e w2 ⟨v1, v2, vo, rfl, r1, r2, ro, b2⟩; obtain ⟨p1, q1, rfl, _⟩ := r1.form; obtain ⟨p2, q2, rfl, _⟩ := r2.form; obtain ⟨p3, q3, rfl, _⟩ := ro.form; have z1 := z1.kept b2; have hbel := Below.then hbel b2)
    | ((with_reducible show wpList _ _ _ (⟨none, Op.store _ _ (Operand.tmp 16), _, _, _, _⟩ :: _) _ _); refine wpList_storeA (o := ⟨none, _, _, _, _, _⟩) (by rfl) 31 (.tmp 7) (.tmp 16) (by rfl) w2.heap.size (hdcs R.hd ++ [.slice p1 R.s.length q1, .slice p2 R.n.length q2]) (by rfl) (by rfl) aggSt (old := zst) (by rw [zcSt]; exact Blk.new w2 _ _) (stc_len RK.out _ _) zst_len (stc_one _ _ _ _ _ _ _) ((Below.refl w2.heap.size w2).alloc (Nat.le_refl _) _) (Nat.le_refl _) ?_; intro w3 y7 b3 _; have z1 := z1.kept b3; have hbel := Below.then hbel b3; have r1 := r1.kept b3; have r2 := r2.kept b3; have ro := ro.kept b3)
    | (go_at_call 22; refine (A2.out _ hbel).mono ?_; rintro e w4 ⟨xa, xn, xc, ya, yn, yc, vq, rfl, r3, r4, rq, b4⟩; obtain ⟨p4, q4, rfl, _⟩ := rq.form; have r3 := r3.below (Below.then hbel b4); have r4 := r4.below (Below.then hbel b4); have z1 := z1.kept b4; have hbel := Below.then hbel b4; have r1 := r1.kept b4; have r2 := r2.kept b4; have ro := ro.kept b4; have y7 := y7.kept b4; have rq := rq.row)
    | ((with_reducible show wpList _ _ _ (⟨none, Op.store _ _ (Operand.tmp 23), _, _, _, _⟩ :: _) _ _); refine wpList_storeA (o := ⟨none, _, _, _, _, _⟩) (by rfl) 31 (.tmp 9) (.tmp 23) (by rfl) w4.heap.size (hdcs R.hd ++ [.slice xa xn xc, .slice ya yn yc]) (by rfl) (by rfl) aggSt (old := zst) (by rw [zcSt]; exact Blk.new w4 _ _) (stc_len RK.out _ _) zst_len (stc_one _ _ _ _ _ _ _) ((Below.refl w4.heap.size w4).alloc (Nat.le_refl _) _) (Nat.le_refl _) ?_; intro w5 y9 b5 _; have hbel := Below.then hbel b5; have r1 := r1.kept b5; have r2 := r2.kept b5; have ro := ro.kept b5; have r3 := r3.kept b5; have r4 := r4.kept b5; have rq := rq.kept b5; have y7 := y7.kept b5)
    | ((with_reducible show wpList _ _ _ (⟨some 25, _, _, _, _, _⟩ :: _) _ _); refine wpList_loadA (o := ⟨some 25, _, _, _, _, _⟩) (by rfl) 31 (.tmp 7) (by rfl) w2.heap.size (by rfl) aggSt y7 (stc_len RK.out _ _) ?_)
    | ((with_reducible show wpList _ _ _ (⟨some 26, _, _, _, _, _⟩ :: _) _ _); refine wpList_loadA (o := ⟨some 26, _, _, _, _, _⟩) (by rfl) 31 (.tmp 9) (by rfl) w4.heap.size (by rfl) aggSt y9 (stc_len RK.out _ _) ?_)
    | (go_at_call 18; refine (SAME.out _ _ _ _ _ r1 r2 r3 r4).mono ?_; rintro e w6 ⟨rfl, b6⟩; have hbel := Below.then hbel b6; have ro := ro.kept b6; have rq := rq.kept b6)
    | (go_at_call 23; refine (erequal_any _ _ L.length _ _ L rfl _ ro rq).mono ?_; rintro e w7 ⟨rfl, b7⟩; have hbel := Below.then hbel b7))
  go_ret
  exact ⟨rfl, hbel⟩
end Go.Proofs.Ytgjgokcpampljaa
