/- root.Root, the reference's HRoot. -/
import Derived.Test.YtnhbfnegpjkojaaRw9
set_option linter.unusedSimpArgs false
set_option linter.unusedVariables false
namespace Go.Proofs.Ytnhbfnegpjkojaa
open Go.RowKit
/-- what the root comes to -/
def rtC (t : Nd) : List Value := if rgt 0 t = true then (sumB ((whN t).headD [])).map u8v else zh
theorem rtC_len (t : Nd) : (rtC t).length = 32 := by
  unfold rtC
  split
  · rw [List.length_map]; exact outB_len _
  · rfl
set_option maxHeartbeats 2000000 in
set_option maxRecDepth 100000 in
theorem rroot_any (t : Nd) (w : World) (hI : IsNd w t) (hb : bulkN t ≤ 1048576) : Calls Try.prog 13 #[.agg (ndcells t).toArray] w fun e w' => e = .returned (.tuple #[.agg (rtC t).toArray, .int .i64 (if rgt 0 t = true then 0 else 1)]) ∧ Below w.heap.size w w' := by
  obtain ⟨w1, hw1⟩ : ∃ w1, w1 = (w.alloc (.cells (ndcells t).toArray 25)).alloc (.cells zh.toArray 31) := ⟨_, rfl⟩
  have hz : Blk 25 w1 w.heap.size (ndcells t) := by rw [hw1]; exact (Blk.new w _ _).alloc _
  have hh : Blk 31 w1 (w.heap.size + 1) zh := by
    have := Blk.new (w.alloc (.cells (ndcells t).toArray 25)) 31 zh
    simp only [World.size_alloc] at this
    rw [hw1]; exact this
  have hbel : Below w.heap.size w w1 := by rw [hw1]; exact ((Below.refl _ _).alloc (Nat.le_refl _) _).alloc (by simp) _
  have c1 : Calls Try.prog 11 #[.agg (ndcells t).toArray] w1 (WhP (rgt 0 t) (whN t) w1) := rcodes_any t w1 (hI.kept hbel) hb
  obtain ⟨c, l, hcl⟩ := whN_ne t
  have hrt : rtC t = if rgt 0 t = true then (sumB c).map u8v else zh := by unfold rtC; rw [hcl]; rfl
  obtain ⟨R, hR⟩ : ∃ R, R = rgt 0 t := ⟨_, rfl⟩
  obtain ⟨K, hK⟩ : ∃ K, K = ndcells t := ⟨_, rfl⟩
  have hKl : K.length = 4 := by rw [hK]; exact ndcells_len t
  rw [hrt]
  rw [hcl] at c1
  simp only [← hR, ← hK] at c1 hz hw1 ⊢
  have C1 := Lib.hid c1
  have Hw1 := Lib.hid hw1
  have HKl := Lib.hid hKl
  have r1 := hz.all0
  cases R with
  | false =>
    rw [if_neg (by simp)]
    clear c1 hR hK hKl hw1 hI hb hrt hcl
    go_enter Try.func13, Try.ntmps13
    go_wp2_with (first
      | ((with_reducible show wpList _ _ _ (⟨some 7, _, _, _, _, _⟩ :: _) _ _); refine wpList_loadW (o := ⟨some 7, _, _, _, _, _⟩) 25 (.tmp 1) (by rfl) w.heap.size 0 (by rfl) aggNode HKl.out (by have h := r1; rw [Hw1.out] at h; exact h) (by rfl) ?_)
      | (go_at_call 11; have C2 := C1.out; rw [Hw1.out] at C2; refine C2.mono ?_; rintro e w2 ⟨v2, ps2, rfl, r2, _, m2, b2⟩; rw [← Hw1.out] at b2; obtain ⟨x2, y2, rfl, _⟩ := r2.form; have hh2 := hh.kept b2; have bb2 := Below.then hbel b2)
      | ((with_reducible show wpList _ _ _ (⟨none, Op.store _ _ (Operand.tmp 13), _, _, _, _⟩ :: _) _ _); refine wpList_storeA (o := ⟨none, _, _, _, _, _⟩) (by rfl) 31 (.tmp 2) (.tmp 13) (by rfl) (w.heap.size + 1) zh (by rfl) (by rfl) aggHash' hh2 (by rfl) (by rfl) (by intro u hu; rw [List.eq_of_mem_replicate hu]; rfl) bb2 (by omega) ?_; intro w3 hh3 bb3 _))
    exact bodyPost_ret (results_blk_tmp rfl _ _ (w.heap.size + 1) aggHash' hh3 rfl rfl rfl) rfl ⟨rfl, bb3⟩
  | true =>
    rw [if_pos rfl]
    obtain ⟨S, hS⟩ : ∃ S, S = (sumB c).map u8v := ⟨_, rfl⟩
    have cs : ∀ (a : Option Addr) (n k : Nat) (hn : c.length = n) (x : World), Bytes x (.slice a n k) c → n ≤ 1000000000 → Calls Try.prog 56 #[.slice a n k] x fun e w' => e = .returned (.agg S.toArray) ∧ Below x.heap.size x w' := fun a n k hn x hx hn2 => by rw [hS]; exact sum_any a n k c hn x hx
    have HSl : Hid (S.length = 32) := Lib.hid (by rw [hS, List.length_map]; exact outB_len _)
    have HSo : Hid (∀ u ∈ S, u.oneCell' = true) := Lib.hid (by rw [hS]; intro u hu; obtain ⟨y, _, rfl⟩ := List.mem_map.1 hu; rfl)
    rw [← hS]
    have Cs := Lib.hid cs
    clear c1 hR hK hKl hw1 hI hb hrt hcl cs hS
    go_enter Try.func13, Try.ntmps13
    go_wp2_with (first
      | ((with_reducible show wpList _ _ _ (⟨some 7, _, _, _, _, _⟩ :: _) _ _); refine wpList_loadW (o := ⟨some 7, _, _, _, _, _⟩) 25 (.tmp 1) (by rfl) w.heap.size 0 (by rfl) aggNode HKl.out (by have h := r1; rw [Hw1.out] at h; exact h) (by rfl) ?_)
      | (go_at_call 11; have C2 := C1.out; rw [Hw1.out] at C2; refine C2.mono ?_; rintro e w2 ⟨v2, ps2, rfl, r2, t2, m2, b2⟩; rw [← Hw1.out] at b2; obtain ⟨qv, ps3, rfl, _⟩ := cons_of (m2.trans (if_pos rfl)); obtain ⟨t3, l3⟩ := t2 _ List.mem_cons_self; dsimp only at t3 l3; obtain ⟨n2, hn2⟩ : ∃ n, n = ps3.length + 1 := ⟨_, rfl⟩; have h0n : (0 : Int) < (n2 : Int) := (by omega); obtain ⟨va, vc, rfl, _⟩ := r2.form' n2 (by rw [hn2]; rfl); obtain ⟨b, off, rfl, rr⟩ := RowOf.range (f := tcell) (size := 1) (fun _ => rfl) r2 0 (Nat.zero_lt_succ _); have k2 : w2.cell? ⟨b, off, none⟩ = some qv := rr 0 qv rfl; obtain ⟨qa, qc, rfl, _⟩ := t3.form; obtain ⟨qn, hqn⟩ : ∃ n, n = c.length := ⟨_, rfl⟩; rw [← hqn] at t3 l3 k2; have Hqn := Lib.hid hqn; clear hqn hn2 m2 t2; have hh2 := hh.kept b2; have bb2 := Below.then hbel b2)
      | (go_at_call 56; refine (Cs.out qa qn qc Hqn.out.symm _ t3 l3).mono ?_; rintro e w3 ⟨rfl, b3⟩; have hh3 := hh2.kept b3; have bb3 := Below.then bb2 b3)
      | ((with_reducible show wpList _ _ _ (⟨none, Op.store _ _ (Operand.tmp 18), _, _, _, _⟩ :: _) _ _); refine wpList_storeA (o := ⟨none, _, _, _, _, _⟩) (by rfl) 31 (.tmp 2) (.tmp 18) (by rfl) (w.heap.size + 1) S (by rfl) (by rfl) aggHash' hh3 HSl.out (by rfl) HSo.out bb3 (by omega) ?_; intro w4 hh4 bb4 _))
    exact bodyPost_ret (results_blk_tmp rfl _ _ (w.heap.size + 1) aggHash' hh4 HSl.out rfl rfl) rfl ⟨rfl, bb4⟩
set_option maxHeartbeats 2000000 in
set_option maxRecDepth 100000 in
theorem hroot_any (t : Nd) (w : World) (hI : IsNd w t) (hb : bulkN t ≤ 1048576) : Calls Try.prog 14 #[.agg (ndcells t).toArray] w fun e w' => e = .returned (.tuple #[.agg (rtC t).toArray, .int .i64 (if rgt 0 t = true then 0 else 1)]) ∧ Below w.heap.size w w' := by
  obtain ⟨w1, hw1⟩ : ∃ w1, w1 = (w.alloc (.cells (ndcells t).toArray 25)).alloc (.cells zh.toArray 31) := ⟨_, rfl⟩
  have hz : Blk 25 w1 w.heap.size (ndcells t) := by rw [hw1]; exact (Blk.new w _ _).alloc _
  have hh : Blk 31 w1 (w.heap.size + 1) zh := by
    have := Blk.new (w.alloc (.cells (ndcells t).toArray 25)) 31 zh
    simp only [World.size_alloc] at this
    rw [hw1]; exact this
  have hbel : Below w.heap.size w w1 := by rw [hw1]; exact ((Below.refl _ _).alloc (Nat.le_refl _) _).alloc (by simp) _
  have c1 : Calls Try.prog 12 #[.agg (ndcells t).toArray] w1 (WhP (rgt 0 t) (whN t) w1) := hcodes_any t w1 (hI.kept hbel) hb
  obtain ⟨c, l, hcl⟩ := whN_ne t
  have hrt : rtC t = if rgt 0 t = true then (sumB c).map u8v else zh := by unfold rtC; rw [hcl]; rfl
  obtain ⟨R, hR⟩ : ∃ R, R = rgt 0 t := ⟨_, rfl⟩
  obtain ⟨K, hK⟩ : ∃ K, K = ndcells t := ⟨_, rfl⟩
  have hKl : K.length = 4 := by rw [hK]; exact ndcells_len t
  rw [hrt]
  rw [hcl] at c1
  simp only [← hR, ← hK] at c1 hz hw1 ⊢
  have C1 := Lib.hid c1
  have Hw1 := Lib.hid hw1
  have HKl := Lib.hid hKl
  have r1 := hz.all0
  cases R with
  | false =>
    rw [if_neg (by simp)]
    clear c1 hR hK hKl hw1 hI hb hrt hcl
    go_enter Try.func14, Try.ntmps14
    go_wp2_with (first
      | ((with_reducible show wpList _ _ _ (⟨some 7, _, _, _, _, _⟩ :: _) _ _); refine wpList_loadW (o := ⟨some 7, _, _, _, _, _⟩) 25 (.tmp 1) (by rfl) w.heap.size 0 (by rfl) aggNode HKl.out (by have h := r1; rw [Hw1.out] at h; exact h) (by rfl) ?_)
      | (go_at_call 12; have C2 := C1.out; rw [Hw1.out] at C2; refine C2.mono ?_; rintro e w2 ⟨v2, ps2, rfl, r2, _, m2, b2⟩; rw [← Hw1.out] at b2; obtain ⟨x2, y2, rfl, _⟩ := r2.form; have hh2 := hh.kept b2; have bb2 := Below.then hbel b2)
      | ((with_reducible show wpList _ _ _ (⟨none, Op.store _ _ (Operand.tmp 13), _, _, _, _⟩ :: _) _ _); refine wpList_storeA (o := ⟨none, _, _, _, _, _⟩) (by rfl) 31 (.tmp 2) (.tmp 13) (by rfl) (w.heap.size + 1) zh (by rfl) (by rfl) aggHash' hh2 (by rfl) (by rfl) (by intro u hu; rw [List.eq_of_mem_replicate hu]; rfl) bb2 (by omega) ?_; intro w3 hh3 bb3 _))
    exact bodyPost_ret (results_blk_tmp rfl _ _ (w.heap.size + 1) aggHash' hh3 rfl rfl rfl) rfl ⟨rfl, bb3⟩
  | true =>
    rw [if_pos rfl]
    obtain ⟨S, hS⟩ : ∃ S, S = (sumB c).map u8v := ⟨_, rfl⟩
    have cs : ∀ (a : Option Addr) (n k : Nat) (hn : c.length = n) (x : World), Bytes x (.slice a n k) c → n ≤ 1000000000 → Calls Try.prog 42 #[.slice a n k] x fun e w' => e = .returned (.agg S.toArray) ∧ Below x.heap.size x w' := fun a n k hn x hx hn2 => by rw [hS]; exact ssum_any a n k c hn x hx (by omega)
    have HSl : Hid (S.length = 32) := Lib.hid (by rw [hS, List.length_map]; exact outB_len _)
    have HSo : Hid (∀ u ∈ S, u.oneCell' = true) := Lib.hid (by rw [hS]; intro u hu; obtain ⟨y, _, rfl⟩ := List.mem_map.1 hu; rfl)
    rw [← hS]
    have Cs := Lib.hid cs
    clear c1 hR hK hKl hw1 hI hb hrt hcl cs hS
    go_enter Try.func14, Try.ntmps14
    go_wp2_with (first
      | ((with_reducible show wpList _ _ _ (⟨some 7, _, _, _, _, _⟩ :: _) _ _); refine wpList_loadW (o := ⟨some 7, _, _, _, _, _⟩) 25 (.tmp 1) (by rfl) w.heap.size 0 (by rfl) aggNode HKl.out (by have h := r1; rw [Hw1.out] at h; exact h) (by rfl) ?_)
      | (go_at_call 12; have C2 := C1.out; rw [Hw1.out] at C2; refine C2.mono ?_; rintro e w2 ⟨v2, ps2, rfl, r2, t2, m2, b2⟩; rw [← Hw1.out] at b2; obtain ⟨qv, ps3, rfl, _⟩ := cons_of (m2.trans (if_pos rfl)); obtain ⟨t3, l3⟩ := t2 _ List.mem_cons_self; dsimp only at t3 l3; obtain ⟨n2, hn2⟩ : ∃ n, n = ps3.length + 1 := ⟨_, rfl⟩; have h0n : (0 : Int) < (n2 : Int) := (by omega); obtain ⟨va, vc, rfl, _⟩ := r2.form' n2 (by rw [hn2]; rfl); obtain ⟨b, off, rfl, rr⟩ := RowOf.range (f := tcell) (size := 1) (fun _ => rfl) r2 0 (Nat.zero_lt_succ _); have k2 : w2.cell? ⟨b, off, none⟩ = some qv := rr 0 qv rfl; obtain ⟨qa, qc, rfl, _⟩ := t3.form; obtain ⟨qn, hqn⟩ : ∃ n, n = c.length := ⟨_, rfl⟩; rw [← hqn] at t3 l3 k2; have Hqn := Lib.hid hqn; clear hqn hn2 m2 t2; have hh2 := hh.kept b2; have bb2 := Below.then hbel b2)
      | (go_at_call 42; refine (Cs.out qa qn qc Hqn.out.symm _ t3 l3).mono ?_; rintro e w3 ⟨rfl, b3⟩; have hh3 := hh2.kept b3; have bb3 := Below.then bb2 b3)
      | ((with_reducible show wpList _ _ _ (⟨none, Op.store _ _ (Operand.tmp 18), _, _, _, _⟩ :: _) _ _); refine wpList_storeA (o := ⟨none, _, _, _, _, _⟩) (by rfl) 31 (.tmp 2) (.tmp 18) (by rfl) (w.heap.size + 1) S (by rfl) (by rfl) aggHash' hh3 HSl.out (by rfl) HSo.out bb3 (by omega) ?_; intro w4 hh4 bb4 _))
    exact bodyPost_ret (results_blk_tmp rfl _ _ (w.heap.size + 1) aggHash' hh4 HSl.out rfl rfl) rfl ⟨rfl, bb4⟩
end Go.Proofs.Ytnhbfnegpjkojaa
