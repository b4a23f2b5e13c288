/- The walk of the law SeatsVotes. -/
import Derived.Test.YtffkjjpjfehcnaaDoorVote10
set_option linter.unusedSimpArgs false
set_option linter.unusedVariables false
namespace Go.Proofs.YtffkjjpjfehcnaaDoor
open Go.RowKit
def NumsR (l : List Nat) : Ty := fun v w => ∃ a n c, v = .slice a n c ∧ n = l.length ∧ RowOf u64c 1 w v l
theorem NumsR.mono (l : List Nat) : Mono (NumsR l) := fun _ _ _ ⟨a, n, c, h1, h2, h3⟩ hb => ⟨a, n, c, h1, h2, RowOf.kept h3 hb⟩
set_option maxHeartbeats 2000000 in
set_option maxRecDepth 100000 in
theorem seatsVotes_walk (a : Option Addr) (c : Nat) (l : List Nat) (hs : l.length * 8 ≤ 140737488355320) (hl : ∀ y ∈ l, y < 18446744073709551616) (M : Nat) (hM : M < 18446744073709551616) (s : List UInt8) (hsl : s.length = 32) (va : Option Addr) (vc : Nat) (V : List Vt) (hvs : V.length ≤ 140737488355328) (hV : ∀ v ∈ V, v.Ok)
    (w : World) (h : RowOf u64c 1 w (.slice a l.length c) l) (hv : RowOf vtc 33 w (.slice va V.length vc) V) (ht : TzW w) :
    Calls Tryd.prog 3 #[.slice a l.length c, .int .u64 (M : Int), .agg (by8 s).toArray, .slice va V.length vc] w fun e w' => e = .returned (.bool true) ∧ Below w.heap.size w w' := by
  obtain ⟨w1, hw1⟩ : ∃ w1, w1 = w.alloc (.cells (by8 s).toArray 25) := ⟨_, rfl⟩
  have hz1 : Blk 25 w1 w.heap.size (by8 s) := by rw [hw1]; exact Blk.new w _ _
  have hb1 : Below w.heap.size w w1 := by rw [hw1]; exact (Below.refl _ _).alloc (Nat.le_refl _) _
  have Hw1 := Lib.hid hw1
  have hl32 : (by8 s).length = 32 := by rw [by8_len, hsl]
  have RH := Lib.hid (Blk.all0 hz1)
  have r1 : ∀ u, Below w1.heap.size w1 u → RowOf u64c 1 u (.slice a l.length c) l := fun u hu => h.below (Below.then hb1 hu)
  have r2 : ∀ u, Below w1.heap.size w1 u → RowOf vtc 33 u (.slice va V.length vc) V := fun u hu => hv.below (Below.then hb1 hu)
  have c1 := fun u (hu : Below w1.heap.size w1 u) => tally_any a l.length c l rfl (by omega) hl s hsl va V.length vc V rfl hvs hV u (r1 u hu) (r2 u hu)
  have c2 := fun u (hu : Below w1.heap.size w1 u) => vtally_any a l.length c l rfl (by omega) s hsl va V.length vc V rfl hvs u (r1 u hu) (r2 u hu)
  have c3 := fun u (hu : Below w1.heap.size w1 u) => voted_any a l.length c l rfl (by omega) hl M hM s hsl va V.length vc V rfl hvs hV u (r1 u hu) (r2 u hu)
  have c4 := fun u (hu : Below w1.heap.size w1 u) => vvoted_any a l.length c l rfl (by omega) M hM s hsl va V.length vc V rfl hvs u (r1 u hu) (r2 u hu)
  have c5 := fun u (hu : Below w1.heap.size w1 u) => named_any a l.length c l rfl hs M hM u (r1 u hu) (ht.kept (Below.then hb1 hu))
  have c6 := fun u (hu : Below w1.heap.size w1 u) => vnamed_any a l.length c l rfl hs M hM u (r1 u hu)
  obtain ⟨T, hT⟩ : ∃ T, T = tal (fun x => hasV V x s) (l.take 64) := ⟨_, rfl⟩
  obtain ⟨R, hR⟩ : ∃ R, R = vtd M (fun x => hasV V x s) l := ⟨_, rfl⟩
  obtain ⟨N, hN⟩ : ∃ N, N = nm M l 0 := ⟨_, rfl⟩
  simp only [← hT] at c1 c2
  simp only [← hR] at c3 c4
  simp only [← hN] at c5 c6
  have C1 := Lib.hid c1
  have C2 := Lib.hid c2
  have C3 := Lib.hid c3
  have C4 := Lib.hid c4
  have C5 := Lib.hid c5
  have C6 := Lib.hid c6
  have hTT : ((T : Int) == (T : Int)) = true := by simp
  have hRR : (R == R) = true := by simp
  generalize l.length = n at *
  generalize V.length = vn at *
  clear c1 c2 c3 c4 c5 c6 hT hR hN r1 r2 h hv ht hw1 hl hV
  go_enter Tryd.func3, Tryd.ntmps3
  go_wp2_with fail
  rw [← Hw1.out]
  refine wp_region_typed w1 31 (by kernel_rfl) (by kernel_rfl) (Below.refl _ _) ?_; simp only [List.take_succ_cons, List.take_zero, List.take_nil]
  (refine wpX_step (by rfl) (fun K hK => ?_); go_simp; first | (refine hK _ ?_; clear hK K) | (apply Exists.intro; refine ⟨fun _ => ?_, hK _ ?_⟩; fail; clear hK K))
  (refine wpX_step (by rfl) (fun K hK => ?_); rw [if_pos (by rfl)]; refine ⟨_, fun u => const_loadm _ (.tmp 6) (by rfl) _ _ (by rfl) aggHs hl32 (rangeAt.ext RH.out u), hK _ ?_⟩; clear hK K; simp only [Act.put, List.setIfInBounds_toArray, List.set_cons_zero, List.set_cons_succ])
  (refine wpX_step (by rfl) (fun K hK => ?_); go_simp; first | (refine hK _ ?_; clear hK K) | (apply Exists.intro; refine ⟨fun _ => ?_, hK _ ?_⟩; fail; clear hK K))
  (refine wpX_step (by rfl) (fun K hK => ?_); go_simp; first | (refine hK _ ?_; clear hK K) | (apply Exists.intro; refine ⟨fun _ => ?_, hK _ ?_⟩; exact C1.out _ (Subtype.property _); clear hK K))
  (refine wpX_step (by rfl) (fun K hK => ?_); go_simp; first | (refine hK _ ?_; clear hK K) | (apply Exists.intro; refine ⟨fun _ => ?_, hK _ ?_⟩; fail; clear hK K))
  (refine wpX_step (by rfl) (fun K hK => ?_); rw [if_pos (by rfl)]; refine ⟨_, fun u => const_loadm _ (.tmp 6) (by rfl) _ _ (by rfl) aggHs hl32 (rangeAt.ext RH.out u), hK _ ?_⟩; clear hK K; simp only [Act.put, List.setIfInBounds_toArray, List.set_cons_zero, List.set_cons_succ])
  (refine wpX_step (by rfl) (fun K hK => ?_); go_simp; first | (refine hK _ ?_; clear hK K) | (apply Exists.intro; refine ⟨fun _ => ?_, hK _ ?_⟩; fail; clear hK K))
  (refine wpX_step (by rfl) (fun K hK => ?_); go_simp; first | (refine hK _ ?_; clear hK K) | (apply Exists.intro; refine ⟨fun _ => ?_, hK _ ?_⟩; exact C2.out _ (Subtype.property _); clear hK K))
  iterate 4 (refine wpX_step (by rfl) (fun K hK => ?_); go_simp; first | (refine hK _ ?_; clear hK K) | (apply Exists.intro; refine ⟨fun _ => ?_, hK _ ?_⟩; fail; clear hK K))
  (refine wpX_step (by rfl) (fun K hK => ?_); rw [if_pos (by rfl)]; refine ⟨_, fun u => const_loadm _ (.tmp 6) (by rfl) _ _ (by rfl) aggHs hl32 (rangeAt.ext RH.out u), hK _ ?_⟩; clear hK K; simp only [Act.put, List.setIfInBounds_toArray, List.set_cons_zero, List.set_cons_succ])
  (refine wpX_step (by rfl) (fun K hK => ?_); go_simp; first | (refine hK _ ?_; clear hK K) | (apply Exists.intro; refine ⟨fun _ => ?_, hK _ ?_⟩; fail; clear hK K))
  (refine wpX_step (by rfl) (fun K hK => ?_); go_simp; first | (refine hK _ ?_; clear hK K) | (apply Exists.intro; refine ⟨fun _ => ?_, hK _ ?_⟩; exact C3.out _ (Subtype.property _); clear hK K))
  iterate 2 (refine wpX_step (by rfl) (fun K hK => ?_); go_simp; first | (refine hK _ ?_; clear hK K) | (apply Exists.intro; refine ⟨fun _ => ?_, hK _ ?_⟩; fail; clear hK K))
  (refine wpX_step (by rfl) (fun K hK => ?_); rw [if_pos (by rfl)]; refine ⟨_, fun u => const_loadm _ (.tmp 6) (by rfl) _ _ (by rfl) aggHs hl32 (rangeAt.ext RH.out u), hK _ ?_⟩; clear hK K; simp only [Act.put, List.setIfInBounds_toArray, List.set_cons_zero, List.set_cons_succ])
  (refine wpX_step (by rfl) (fun K hK => ?_); go_simp; first | (refine hK _ ?_; clear hK K) | (apply Exists.intro; refine ⟨fun _ => ?_, hK _ ?_⟩; fail; clear hK K))
  (refine wpX_step (by rfl) (fun K hK => ?_); go_simp; first | (refine hK _ ?_; clear hK K) | (apply Exists.intro; refine ⟨fun _ => ?_, hK _ ?_⟩; exact C4.out _ (Subtype.property _); clear hK K))
  iterate 5 (refine wpX_step (by rfl) (fun K hK => ?_); go_simp; first | (refine hK _ ?_; clear hK K) | (apply Exists.intro; refine ⟨fun _ => ?_, hK _ ?_⟩; fail; clear hK K))
  refine wpX_rel 34 (NumsR N) rfl (of_decide_eq_true rfl) (NumsR.mono _) (fun w2 hw2 => ?_) ?_
  · simp only [relOf, List.filter_nil, forallRel]
    refine ⟨rfl, ?_⟩
    go_simp
    refine (C5.out w2 hw2).mono ?_
    rintro e w3 ⟨v, rfl, o3, b3⟩
    obtain ⟨a3, c3, rfl, _⟩ := o3.form
    exact ⟨_, rfl, ⟨a3, _, c3, rfl, rfl, o3.row⟩, b3⟩
  iterate 2 (refine wpX_step (by rfl) (fun K hK => ?_); go_simp; first | (refine hK _ ?_; clear hK K) | (apply Exists.intro; refine ⟨fun _ => ?_, hK _ ?_⟩; fail; clear hK K))
  refine wpX_rel 37 (NumsR N) rfl (of_decide_eq_true rfl) (NumsR.mono _) (fun w2 hw2 => ?_) ?_
  · simp only [relOf, List.filter_nil, List.filter_cons, forallRel]
    try simp only [forallRel]
    refine ⟨rfl, ?_⟩
    go_simp
    refine (C6.out w2 hw2).mono ?_
    rintro e w3 ⟨v, rfl, o3, b3⟩
    obtain ⟨a3, c3, rfl, _⟩ := o3.form
    exact ⟨_, rfl, ⟨a3, _, c3, rfl, rfl, o3.row⟩, b3⟩
  refine wpX_eq (.bool true) (fun w2 hw2 => ?_) ?_
  · change forallRel w2 [(37, _), (34, _)] _ _
    rintro v37 ⟨a7, n7, c7, rfl, hn7, r7⟩ v34 ⟨a4, n4, c4, rfl, hn4, r4⟩
    obtain rfl : n7 = n4 := hn7.trans hn4.symm
    have Hn := Lib.hid hn7.symm
    clear hn7 hn4
    simp only [forallRel]
    refine ⟨rfl, ?_⟩
    go_simp
    refine (sequal_any a4 a7 n7 c4 c7 N Hn.out w2 r4 r7).mono ?_
    rintro e w3 ⟨rfl, b3⟩
    exact ⟨_, rfl, rfl, b3⟩
  (refine wpX_step (by rfl) (fun K hK => ?_); go_simp; first | (refine hK _ ?_; clear hK K) | (apply Exists.intro; refine ⟨fun _ => ?_, hK _ ?_⟩; fail; clear hK K))
  refine wpX_nil ?_
  intro u2 hb2 v34 _ v37 _
  change wpList _ _ _ [_] _ _
  have hbel2 := Below.then hb1 hb2
  go_wp2
  go_ret
  exact ⟨rfl, hbel2⟩
end Go.Proofs.YtffkjjpjfehcnaaDoor
