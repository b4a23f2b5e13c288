/- The walk of the law RootWhole. -/
import Derived.Test.YtnhbfnegpjkojaaRw10
import Derived.Test.YtnhbfnegpjkojaaHashQ
import Derived.Test.YtnhbfnegpjkojaaRRead2
set_option linter.unusedSimpArgs false
set_option linter.unusedVariables false
namespace Go.Proofs.Ytnhbfnegpjkojaa
open Go.RowKit
theorem rtC_bytes (t : Nd) : ∃ D : List UInt8, D.length = 32 ∧ rtC t = D.map u8v := by
  unfold rtC
  split
  · exact ⟨_, outB_len _, rfl⟩
  · exact ⟨List.replicate 32 0, by simp, rfl⟩
set_option maxHeartbeats 4000000 in
set_option maxRecDepth 100000 in
theorem rootWhole_walk (t : Nd) (w : World) (hI : IsNd w t) (hb : bulkN t ≤ 1048576) : Calls Try.prog 3 #[.agg (ndcells t).toArray] w fun e w' => e = .returned (.bool true) ∧ Below w.heap.size w w' := by
  obtain ⟨w1, hw1⟩ : ∃ w1, w1 = w.alloc (.cells (ndcells t).toArray 25) := ⟨_, rfl⟩
  have hz : Blk 25 w1 w.heap.size (ndcells t) := by rw [hw1]; exact Blk.new w _ _
  have hbel : Below w.heap.size w w1 := by rw [hw1]; exact (Below.refl _ _).alloc (Nat.le_refl _) _
  have c1 := fun u (hu : Below w.heap.size w u) => rcodes_any t u (hI.kept hu) hb
  have c2 := fun u (hu : Below w.heap.size w u) => hcodes_any t u (hI.kept hu) hb
  have c3 := fun u (hu : Below w.heap.size w u) => rroot_any t u (hI.kept hu) hb
  have c4 := fun u (hu : Below w.heap.size w u) => hroot_any t u (hI.kept hu) hb
  have hwl := whN_len t
  obtain ⟨D, hD, hrt⟩ := rtC_bytes t
  obtain ⟨S, hS⟩ : ∃ S, S = rtC t := ⟨_, rfl⟩
  have g1 : ∀ o1 o2 w1, (eqGuard .eql 31 o1 o2 (.agg S.toArray) (.agg S.toArray)).run Try.prog w1 = .ok () w1 := fun o1 o2 w1 => by rw [hS, hrt]; exact guard_eq_h D D o1 o2 w1
  have q1 : ∀ w1 : World, (binOp .eql 31 (.agg S.toArray) (.agg S.toArray)).run Try.prog w1 = .ok (.bool true) w1 := fun w1 => by rw [hS, hrt, run_eq_h D D hD hD w1, beq_self_eq_true]
  have HSl : Hid (S.length = 32) := Lib.hid (by rw [hS]; exact rtC_len t)
  have HSo : Hid (∀ u ∈ S, u.oneCell' = true) := Lib.hid (by rw [hS, hrt]; intro u hu; obtain ⟨y, _, rfl⟩ := List.mem_map.1 hu; rfl)
  obtain ⟨K, hK⟩ : ∃ K, K = ndcells t := ⟨_, rfl⟩
  have hKl : K.length = 4 := by rw [hK]; exact ndcells_len t
  obtain ⟨Wh, hWh⟩ : ∃ A, A = (if rgt 0 t = true then whN t else []) := ⟨_, rfl⟩
  obtain ⟨E, hE⟩ : ∃ E : Int, E = if rgt 0 t = true then 0 else 1 := ⟨_, rfl⟩
  have hWl : Wh.length ≤ 1048576 := by
    rw [hWh]
    split
    · omega
    · exact Nat.zero_le _
  obtain ⟨n, hn⟩ : ∃ n, n = Wh.length := ⟨_, rfl⟩
  unfold WhPost WhP at c1 c2
  simp only [← hS, ← hK, ← hWh, ← hE] at c1 c2 c3 c4 hz hw1 ⊢
  have r1 := hz.all0
  have Hw1 := Lib.hid hw1
  have C1 := Lib.hid c1
  have C2 := Lib.hid c2
  have C3 := Lib.hid c3
  have C4 := Lib.hid c4
  have HKl := Lib.hid hKl
  have HWl := Lib.hid hWl
  have Hn := Lib.hid hn
  have hbe : (E == E) = true := beq_self_eq_true E
  clear hw1 c1 c2 c3 c4 hrt hS hD hK hKl hWh hE hwl hI hb hWl hn
  go_enter Try.func3, Try.ntmps3
  go_wp2_with (first
    | ((with_reducible show wpList _ _ _ (⟨some 12, _, _, _, _, _⟩ :: _) _ _); refine wpList_loadW (o := ⟨some 12, _, _, _, _, _⟩) 25 (.tmp 1) (by rfl) w.heap.size 0 (by rfl) aggNode HKl.out (by rw [← Hw1.out]; exact r1) (by rfl) ?_)
    | (go_at_call 11; rw [← Hw1.out]; (with_reducible refine (C1.out _ hbel).mono ?_); rintro e w2 ⟨v2, ps2, rfl, r2, t2, m2, b2⟩; have bb2 := Below.then hbel b2; have n2 := (hz.kept b2).all0; have l2 : Hid (ps2.length = n) := Lib.hid (by rw [Hn.out, ← m2, List.length_map]); obtain ⟨a2, k2, rfl, _⟩ := r2.form' n l2.out; have T2 : Texts w2 (.slice a2 n k2) ps2 := ⟨r2, fun q hq => (t2 q hq).1⟩; have M2 := Lib.hid m2; clear m2 t2 r2)
    | ((with_reducible show wpList _ _ _ (⟨some 17, _, _, _, _, _⟩ :: _) _ _); refine wpList_loadW (o := ⟨some 17, _, _, _, _, _⟩) 25 (.tmp 1) (by rfl) w.heap.size 0 (by rfl) aggNode HKl.out n2 (by rfl) ?_)
    | (go_at_call 12; (with_reducible refine (C2.out _ bb2).mono ?_); rintro e w3 ⟨v3, ps3, rfl, r3, t3, m3, b3⟩; have bb3 := Below.then bb2 b3; have n3 := World.rangeAt.below n2 b3; have l3 : Hid (ps3.length = n) := Lib.hid (by rw [Hn.out, ← m3, List.length_map]); obtain ⟨a3, k3, rfl, _⟩ := r3.form' n l3.out; have T3 : Texts w3 (.slice a3 n k3) ps3 := ⟨r3, fun q hq => (t3 q hq).1⟩; have M3 := Lib.hid m3; clear m3 t3 r3)
    | ((with_reducible show wpList _ _ _ (⟨some 22, _, _, _, _, _⟩ :: _) _ _); refine wpList_loadW (o := ⟨some 22, _, _, _, _, _⟩) 25 (.tmp 1) (by rfl) w.heap.size 0 (by rfl) aggNode HKl.out n3 (by rfl) ?_)
    | (go_at_call 13; (with_reducible refine (C3.out _ bb3).mono ?_); rintro e w4 ⟨rfl, b4⟩; have bb4 := Below.then bb3 b4; have n4 := World.rangeAt.below n3 b4; have nh4 := Blk.new w4 31 zh)
    | ((with_reducible show wpList _ _ _ (⟨none, Op.store _ _ (Operand.tmp 24), _, _, _, _⟩ :: _) _ _); refine wpList_storeA (o := ⟨none, _, _, _, _, _⟩) (by rfl) 31 (.tmp 7) (.tmp 24) (by rfl) w4.heap.size S (by rfl) (by rfl) aggHash' nh4 HSl.out (by rfl) HSo.out ((Below.refl w4.heap.size w4).alloc (Nat.le_refl _) _) (Nat.le_refl _) ?_; intro w5 y5 b5 _; have bb5 := Below.then bb4 b5; have n5 := World.rangeAt.below n4 b5)
    | ((with_reducible show wpList _ _ _ (⟨some 27, _, _, _, _, _⟩ :: _) _ _); refine wpList_loadW (o := ⟨some 27, _, _, _, _, _⟩) 25 (.tmp 1) (by rfl) w.heap.size 0 (by rfl) aggNode HKl.out n5 (by rfl) ?_)
    | (go_at_call 14; (with_reducible refine (C4.out _ bb5).mono ?_); rintro e w6 ⟨rfl, b6⟩; have bb6 := Below.then bb5 b6; have y6 := y5.kept b6; have nh6 := Blk.new w6 31 zh)
    | ((with_reducible show wpList _ _ _ (⟨none, Op.store _ _ (Operand.tmp 29), _, _, _, _⟩ :: _) _ _); refine wpList_storeA (o := ⟨none, _, _, _, _, _⟩) (by rfl) 31 (.tmp 9) (.tmp 29) (by rfl) w6.heap.size S (by rfl) (by rfl) aggHash' nh6 HSl.out (by rfl) HSo.out ((Below.refl w6.heap.size w6).alloc (Nat.le_refl _) _) (Nat.le_refl _) ?_; intro w7 z7 b7 _; have bb7 := Below.then bb6 b7; have y7 := y6.kept b7; have St := Lib.hid (sameTexts_any a2 a3 n k2 k3 ps2 ps3 l2.out l3.out (by rw [Hn.out]; exact HWl.out) w7 (((((T2.below b3).below b4).below b5).below b6).below b7) ((((T3.below b4).below b5).below b6).below b7) (by rw [M2.out, M3.out])))
    | (go_at_call 15; refine St.out.mono ?_; rintro e w8 ⟨rfl, b8⟩; have bb8 := Below.then bb7 b8; have y8 := (y7.kept b8).all0; have z8 := (z7.kept b8).all0)
    | ((with_reducible show wpList _ _ _ (⟨some 45, _, _, _, _, _⟩ :: _) _ _); refine wpList_loadW (o := ⟨some 45, _, _, _, _, _⟩) 31 (.tmp 7) (by rfl) w4.heap.size 0 (by rfl) aggHash' HSl.out y8 (by rfl) ?_)
    | ((with_reducible show wpList _ _ _ (⟨some 46, _, _, _, _, _⟩ :: _) _ _); refine wpList_loadW (o := ⟨some 46, _, _, _, _, _⟩) 31 (.tmp 9) (by rfl) w6.heap.size 0 (by rfl) aggHash' HSl.out z8 (by rfl) ?_))

  go_ret
  exact ⟨rfl, bb8⟩
end Go.Proofs.Ytnhbfnegpjkojaa
