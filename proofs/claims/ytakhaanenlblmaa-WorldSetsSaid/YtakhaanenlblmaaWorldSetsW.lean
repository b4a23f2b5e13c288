/- The walk of the law WorldSets. -/
import Derived.Test.YtakhaanenlblmaaWsF
set_option linter.unusedSimpArgs false
set_option linter.unusedVariables false
namespace Go.Proofs.Ytakhaanenlblmaa
open Go.RowKit
theorem setK_small {l : List Hol} {A : List UInt8} {q : Acc} (hk : ∀ h ∈ l, h.a.m < W256) (hq : q.m < W256) : ∀ k ∈ setK l A q, k.2.2.1 < W256 := by
  intro k hk'
  unfold setK butL at hk'
  split at hk'
  · obtain ⟨h, hh, rfl⟩ := List.mem_map.1 hk'
    exact hk h (List.mem_filter.1 hh).1
  · rcases List.mem_append.1 hk' with hk' | hk'
    · obtain ⟨h, hh, rfl⟩ := List.mem_map.1 hk'
      exact hk h (List.mem_filter.1 hh).1
    · rcases List.mem_cons.1 hk' with rfl | hk'
      · exact hq
      · obtain ⟨h, hh, rfl⟩ := List.mem_map.1 hk'
        exact hk h (List.mem_filter.1 hh).1
theorem SetR.small {l : List Hol} {A : List UInt8} {q : Acc} {O : List Hol} {E : Nat} (h : SetR l A q (O.map Hol.key) E) (hk : ∀ h ∈ l, h.a.m < W256) (hq : q.m < W256) : ∀ h ∈ O, h.a.m < W256 := by
  intro p hp
  have hm : p.key ∈ O.map Hol.key := List.mem_map.2 ⟨p, hp, rfl⟩
  rcases h with ⟨_, _, e⟩ | ⟨_, _, _, _, e⟩ | ⟨_, _, _, _, e⟩
  · rw [e] at hm; simp at hm
  · rw [e] at hm; simp at hm
  · rw [e] at hm
    exact setK_small hk hq _ hm
theorem GetR.small {l : List Hol} {t : Nat} {a : Acc} {E : Nat} (h : GetR l t a.val E) (hk : ∀ h ∈ l, h.a.m < W256) : a.m < W256 := by
  have e : a.m = a.val.2.1 := rfl
  have hz : zA.val.2.1 < W256 := by unfold zA Acc.val W256; dsimp only; omega
  rw [e]
  rcases h with ⟨_, _, h⟩ | ⟨_, _, ⟨i, hi, _, h⟩ | ⟨_, h⟩⟩
  · rw [h]; exact hz
  · rw [h]; exact hk _ (List.getElem_mem hi)
  · rw [h]; exact hz
set_option maxHeartbeats 4000000 in
set_option maxRecDepth 100000 in
theorem worldSets_walk (a : Option Addr) (n c : Nat) (l : List Hol) (hn : l.length = n) (hk : ∀ h ∈ l, h.a.Ok) (hz : ∀ h ∈ l, h.a.Sz) (A : List UInt8) (hA : A.length = 8) (q : Acc) (hqk : q.Ok) (hqz : q.Sz) (hb : (n + 3) * 96 ≤ 140737488355328) (w : World) (h : RowOf hols 15 w (.slice a n c) l) (hi : ∀ h ∈ l, h.a.In w) (hqi : q.In w) :
    Calls Try.prog 5 #[.slice a n c, .agg (by8 A).toArray, .agg (accs q).toArray] w fun e w' => e = .returned (.bool true) ∧ Below w.heap.size w w' := by
  obtain ⟨w1, hw1⟩ : ∃ w1, w1 = (w.alloc (.cells (by8 A).toArray 46)).alloc (.cells (accs q).toArray 49) := ⟨_, rfl⟩
  have z4 : Blk 46 w1 w.heap.size (by8 A) := by rw [hw1]; exact (Blk.new w _ _).alloc _
  have z5 : Blk 49 w1 (w.heap.size + 1) (accs q) := by
    rw [hw1]
    have := Blk.new (w.alloc (.cells (by8 A).toArray 46)) 49 (accs q)
    simpa using this
  have hbel : Below w.heap.size w w1 := by rw [hw1]; exact ((Below.refl _ _).alloc (Nat.le_refl _) _).alloc (by simp) _
  have c1 := fun u (hu : Below w.heap.size w u) => wget_any a n c l hn hk hz A hA (by omega) u (h.below hu) (fun p hp => (hi p hp).below hu)
  have c2 := fun u (hu : Below w.heap.size w u) => oget_any a n c l hn hk A hA u (h.below hu) (fun p hp => (hi p hp).below hu)
  have c3 := fun u (hu : Below w.heap.size w u) => wset_any a n c l hn hk hz A hA q hqk hqz (by omega) u (h.below hu) (fun p hp => (hi p hp).below hu) (hqi.below hu)
  have c4 := fun u (hu : Below w.heap.size w u) => oset_any a n c l hn hk hz A hA q hqk hqz hb u (h.below hu) (fun p hp => (hi p hp).below hu) (hqi.below hu)
  have c5 := fun u (hu : Below w.heap.size w u) => right_any a n c l hn hk u (h.below hu) (fun p hp => (hi p hp).below hu)
  have c6 := fun u (hu : Below w.heap.size w u) => oright_any a n c l hn hk u (h.below hu) (fun p hp => (hi p hp).below hu)
  obtain ⟨R, hR⟩ : ∃ R, R = rightB l := ⟨_, rfl⟩
  rw [← hR] at c5 c6
  obtain ⟨Y, hY⟩ : ∃ Y, Y = by8 A := ⟨_, rfl⟩
  obtain ⟨X, hX⟩ : ∃ X, X = accs q := ⟨_, rfl⟩
  have hlY : Y.length = 8 := by rw [hY, by8_len, hA]
  have hlX : X.length = 7 := by rw [hX]; rfl
  rw [← hX, ← hY] at hw1 ⊢
  rw [← hX] at z5 c3 c4
  rw [← hY] at z4 c1 c2 c3 c4
  have hbe : (R == R) = true := beq_self_eq_true _
  have hbx : ∀ x : Int, (x == x) = true := fun x => beq_self_eq_true x
  have Hw1 := Lib.hid hw1
  have C1 := Lib.hid c1
  have C2 := Lib.hid c2
  have C3 := Lib.hid c3
  have C4 := Lib.hid c4
  have C5 := Lib.hid c5
  have C6 := Lib.hid c6
  have Hk := Lib.hid (fun p hp => (hk p hp).m)
  have Hq := Lib.hid hqk.m
  clear c1 c2 c3 c4 c5 c6 hw1 hX hY hR hn hk hz hqk hqz h hi hqi hA hb
  go_enter Try.func5, Try.ntmps5
  go_upto_region 1 with fail
  rw [show ((w.alloc (.cells Y.toArray 46)).alloc (.cells X.toArray 49)) = w1 from Hw1.out.symm]
  go_wp2_with (first
    | ((with_reducible show wpList _ _ _ (⟨some 17, _, _, _, _, _⟩ :: _) _ _); refine wpList_loadA (o := ⟨some 17, _, _, _, _, _⟩) (by rfl) 46 (.tmp 4) (by rfl) w.heap.size (by rfl) aggAddr z4 hlY ?_)
    | (go_at_call 20; refine (C1.out _ hbel).mono ?_; rintro e w2 ⟨x, E, rfl, gx, ix, b2⟩; have Gx := Lib.hid gx; have Ix := Lib.hid ix; have hox := accs_one ix; have bb2 := Below.then hbel b2; have y4 := z4.kept b2; have y5 := z5.kept b2; obtain ⟨VX, hVX⟩ : ∃ V, V = accs x := ⟨_, rfl⟩; have lVX : VX.length = 7 := (by rw [hVX]; rfl); rw [← hVX] at hox ⊢; have HVX := Lib.hid hVX; have n7 := Blk.newA w2 49 z7.toArray; clear gx ix hVX)
    | ((with_reducible show wpList _ _ _ (⟨none, Op.store _ _ (Operand.tmp 19), _, _, _, _⟩ :: _) _ _); refine wpList_storeA (o := ⟨none, _, _, _, _, _⟩) (by rfl) 49 (.tmp 7) (.tmp 19) (by rfl) w2.heap.size VX (by rfl) (by rfl) aggAcc n7 lVX (by rfl) hox (Below.alloc (Below.refl _ _) (Nat.le_refl _) _) (Nat.le_refl _) ?_; intro w3 p3 b3 _; have bb3 := Below.then bb2 b3; have t4 := y4.kept b3; have t5 := y5.kept b3)
    | ((with_reducible show wpList _ _ _ (⟨some 23, _, _, _, _, _⟩ :: _) _ _); refine wpList_loadA (o := ⟨some 23, _, _, _, _, _⟩) (by rfl) 46 (.tmp 4) (by rfl) w.heap.size (by rfl) aggAddr t4 hlY ?_)
    | (go_at_call 21; refine (C2.out _ bb3).mono ?_; rintro e w4 ⟨y, F, rfl, gy, iy, b4⟩; obtain ⟨hval, rfl⟩ := GetR.one Gx.out gy; have Hval := Lib.hid hval; have Iy := Lib.hid iy; have hoy := accs_one iy; have bb4 := Below.then bb3 b4; have u4 := t4.kept b4; have u5 := t5.kept b4; have p4 := p3.kept b4; obtain ⟨VY, hVY⟩ : ∃ V, V = accs y := ⟨_, rfl⟩; have lVY : VY.length = 7 := (by rw [hVY]; rfl); rw [← hVY] at hoy ⊢; have HVY := Lib.hid hVY; have n9 := Blk.newA w4 49 z7.toArray; clear gy iy hVY hval)
    | ((with_reducible show wpList _ _ _ (⟨none, Op.store _ _ (Operand.tmp 25), _, _, _, _⟩ :: _) _ _); refine wpList_storeA (o := ⟨none, _, _, _, _, _⟩) (by rfl) 49 (.tmp 9) (.tmp 25) (by rfl) w4.heap.size VY (by rfl) (by rfl) aggAcc n9 lVY (by rfl) hoy (Below.alloc (Below.refl _ _) (Nat.le_refl _) _) (Nat.le_refl _) ?_; intro w5 o5 b5 _; have bb5 := Below.then bb4 b5; have q4 := u4.kept b5; have q5 := u5.kept b5; have p5 := p4.kept b5)
    | ((with_reducible show wpList _ _ _ (⟨some 29, _, _, _, _, _⟩ :: _) _ _); refine wpList_loadA (o := ⟨some 29, _, _, _, _, _⟩) (by rfl) 46 (.tmp 4) (by rfl) w.heap.size (by rfl) aggAddr q4 hlY ?_)
    | ((with_reducible show wpList _ _ _ (⟨some 30, _, _, _, _, _⟩ :: _) _ _); refine wpList_loadA (o := ⟨some 30, _, _, _, _, _⟩) (by rfl) 49 (.tmp 5) (by rfl) (w.heap.size + 1) (by rfl) aggAcc q5 hlX ?_)
    | (go_at_call 22; refine (C3.out _ bb5).mono ?_; rintro e w6 ⟨v1, O1, G1, rfl, r1, i1, s1, b6⟩; have bb6 := Below.then bb5 b6; have a4 := q4.kept b6; have a5 := q5.kept b6; have p6 := p5.kept b6; have o6 := o5.kept b6; have S1 := Lib.hid s1; have I1 := Lib.hid i1; have R1 := Lib.hid r1; clear s1 i1 r1)
    | ((with_reducible show wpList _ _ _ (⟨some 36, _, _, _, _, _⟩ :: _) _ _); refine wpList_loadA (o := ⟨some 36, _, _, _, _, _⟩) (by rfl) 46 (.tmp 4) (by rfl) w.heap.size (by rfl) aggAddr a4 hlY ?_)
    | ((with_reducible show wpList _ _ _ (⟨some 37, _, _, _, _, _⟩ :: _) _ _); refine wpList_loadA (o := ⟨some 37, _, _, _, _, _⟩) (by rfl) 49 (.tmp 5) (by rfl) (w.heap.size + 1) (by rfl) aggAcc a5 hlX ?_)
    | (go_at_call 23; refine (C4.out _ bb6).mono ?_; rintro e w7 ⟨v2, O2, G2, rfl, r2, i2, s2, b7⟩; obtain ⟨rfl, hkk⟩ := SetR.one S1.out s2; have Hkk := Lib.hid hkk; have bb7 := Below.then bb6 b7; have p7 := p6.kept b7; have o7 := o6.kept b7; have I2 := Lib.hid i2; have R2 := Lib.hid r2; clear s2 i2 r2 hkk)
    | (go_at_call 24; refine (C5.out _ bb7).mono ?_; rintro e w8 ⟨rfl, b8⟩; have bb8 := Below.then bb7 b8; have p8 := p7.kept b8; have o8 := o7.kept b8)
    | (go_at_call 25; refine (C6.out _ bb8).mono ?_; rintro e w9 ⟨rfl, b9⟩; have bb9 := Below.then bb8 b9; have p9 := p8.kept b9; have o9 := o8.kept b9)
    | ((with_reducible show wpList _ _ _ (⟨some 52, _, _, _, _, _⟩ :: _) _ _); refine wpList_loadW (o := ⟨some 52, _, _, _, _, _⟩) 49 (.tmp 7) (by rfl) w2.heap.size 0 (by rfl) aggAcc lVX (Blk.range0 p9) (by rfl) ?_)
    | ((with_reducible show wpList _ _ _ (⟨some 53, _, _, _, _, _⟩ :: _) _ _); refine wpList_loadW (o := ⟨some 53, _, _, _, _, _⟩) 49 (.tmp 9) (by rfl) w4.heap.size 0 (by rfl) aggAcc lVY (Blk.range0 o9) (by rfl) ?_)
    | (go_at_call 26; rw [HVX.out, HVY.out]; refine (sameacc_like x y Hval.out (GetR.small Gx.out Hk.out) w9 ((((((((Ix.out.below b3).below b4).below b5).below b6).below b7).below b8).below b9)) (((((((Iy.out.below b5).below b6).below b7).below b8).below b9)))).mono ?_; rintro e w10 ⟨rfl, b10⟩; have bb10 := Below.then bb9 b10)
    | (go_at_call 27; refine (sameworld_like v1 v2 O1 O2 Hkk.out (SetR.small S1.out Hk.out Hq.out) w10 (((((R1.out.kept b7).kept b8).kept b9).kept b10)) ((((R2.out.kept b8).kept b9).kept b10)) (fun p hp => (((((I1.out p hp).below b7).below b8).below b9).below b10)) (fun p hp => ((((I2.out p hp).below b8).below b9).below b10))).mono ?_; rintro e w11 ⟨rfl, b11⟩; have bb11 := Below.then bb10 b11))
  go_ret
  exact ⟨rfl, bb11⟩
end Go.Proofs.Ytakhaanenlblmaa
