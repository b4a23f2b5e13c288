/- The reference's one. -/
import Derived.Test.YtakhaanenlblmaaMem13
import Derived.Deep.CutBlock
set_option linter.unusedSimpArgs false
set_option linter.unusedVariables false
namespace Go.Proofs.Ytakhaanenlblmaa
open Go.RowKit
set_option maxHeartbeats 8000000 in
set_option maxRecDepth 100000 in
theorem one_any (o : Mop) (k : o.Ok) (b nn : Nat) (M : List UInt8) (hM : M.length ≤ 4096) (h32 : M.length % 32 = 0) (w : World) (hI : Bytes w o.dv o.D) (hK : KM w b nn M) (hnn : nn ≤ 1000000000000000000) :
    Calls Try.prog 57 #[.agg (kmc b M.length).toArray, .agg (mopc o).toArray] w (OnePost o b nn M w) := by
  obtain ⟨sz, hsz⟩ : ∃ s, s = M.length := ⟨_, rfl⟩
  obtain ⟨w1, hw1⟩ : ∃ w1, w1 = (((w.alloc (.cells (kmc b sz).toArray 122)).alloc (.cells (mopc o).toArray 118)).alloc (.cells z2k.toArray 122)).alloc (.cells z6.toArray 42) := ⟨_, rfl⟩
  have hd : BxW w o b sz w1 := by rw [hw1]; exact BxW.start w o b sz
  have hz4 : sz ≤ 4096 := by omega
  rw [← hsz]
  obtain ⟨a0, a1, a2, a3, hA⟩ : ∃ a0 a1 a2 a3 : Int, wcs o.A = [.int .u64 a0, .int .u64 a1, .int .u64 a2, .int .u64 a3] := ⟨_, _, _, _, rfl⟩
  obtain ⟨n0, n1, n2, n3, hN⟩ : ∃ n0 n1 n2 n3 : Int, wcs 32 = [.int .u64 n0, .int .u64 n1, .int .u64 n2, .int .u64 n3] := ⟨_, _, _, _, rfl⟩
  have ci : ∀ u : World, Calls Try.prog 109 #[.int .u64 32] u (fun e w' => e = .returned (.agg #[.int .u64 n0, .int .u64 n1, .int .u64 n2, .int .u64 n3]) ∧ Below u.heap.size u w') := fun u => by
    have := wint_any 32 (by omega) u
    unfold wv at this
    rw [hN] at this
    exact this
  have Ci := Lib.hid ci
  have HA := Lib.hid hA
  have HN := Lib.hid hN
  have Hw1 := Lib.hid hw1
  have Hsz := Lib.hid hsz
  obtain ⟨kk, hkk⟩ : ∃ kk, kk = o.k := ⟨_, rfl⟩
  have HKK := Lib.hid hkk
  have cellA : ∀ u, BxW w o b sz u → u.cell? ⟨w.heap.size + 1, 1, none⟩ = some (.int .u64 a0) ∧ u.cell? ⟨w.heap.size + 1, 2, none⟩ = some (.int .u64 a1) ∧ u.cell? ⟨w.heap.size + 1, 3, none⟩ = some (.int .u64 a2) ∧ u.cell? ⟨w.heap.size + 1, 4, none⟩ = some (.int .u64 a3) ∧ u.cell? ⟨w.heap.size + 1, 0, none⟩ = some (.int .i64 kk) := fun u hu => by
    have hc := hu.o
    unfold mopc at hc
    rw [hA] at hc
    exact ⟨hc.cell 1, hc.cell 2, hc.cell 3, hc.cell 4, by rw [hkk]; exact hc.cell 0⟩
  have CellA := Lib.hid cellA
  clear ci hA hN hw1 hsz hkk cellA
  show Calls Try.prog 57 #[.agg #[.map (some b), .int .u64 (sz : Int)], .agg (mopc o).toArray] w _
  go_enter Try.func57, Try.ntmps57
  go_upto_region 2 with (go_at_call 109; (have e : (((w.alloc (.cells #[.map (some b), .int .u64 (sz : Int)] 122)).alloc (.cells (mopc o).toArray 118)).alloc (.cells #[.map none, .int .u64 0] 122)).alloc (.cells #[.int .i64 0, .int .u64 0, .int .u64 0, .int .u64 0, .int .u64 0, .int .u64 0] 42) = w1 := Hw1.out.symm); rw [e]; clear e; refine (Ci.out _).mono ?_; rintro e y1 ⟨rfl, b1⟩)
  have hd1 := hd.kept b1
  obtain ⟨y2, hy2⟩ : ∃ x, x = y1.alloc (.cells #[.int .u64 n0, .int .u64 n1, .int .u64 n2, .int .u64 n3] 40) := ⟨_, rfl⟩
  have n6 : Blk 40 y2 y1.heap.size [.int .u64 n0, .int .u64 n1, .int .u64 n2, .int .u64 n3] := by rw [hy2]; exact Blk.new y1 40 [.int .u64 n0, .int .u64 n1, .int .u64 n2, .int .u64 n3]
  have hd2 : BxW w o b sz y2 := by rw [hy2]; exact hd1.kept ((Below.refl _ _).alloc (Nat.le_refl _) _)
  obtain ⟨g6, hg6⟩ : ∃ x, x = y1.heap.size := ⟨_, rfl⟩
  rw [← hg6] at n6
  have hgg6 : w.heap.size + 3 < g6 := by rw [hg6]; exact hd1.a.lt
  try simp only [← hy2, ← hg6]
  clear hy2 hg6 hd1 b1 hd
  obtain ⟨c1, c2, c3, c4, c0⟩ := CellA.out _ hd2
  go_upto_region 3 with fail
  have b4 : Below y2.heap.size y2 ((y2.alloc (.cells #[.int .u64 a0, .int .u64 a1, .int .u64 a2, .int .u64 a3] 40)).alloc (.cells #[.int .u64 0, .int .u64 0, .int .u64 0, .int .u64 0] 40)) := ((Below.refl _ _).alloc (Nat.le_refl _) _).alloc (by simp) _
  have hO4 : OnW w o b sz 32 o.A 0 g6 y2.heap.size (y2.heap.size + 1) ((y2.alloc (.cells #[.int .u64 a0, .int .u64 a1, .int .u64 a2, .int .u64 a3] 40)).alloc (.cells #[.int .u64 0, .int .u64 0, .int .u64 0, .int .u64 0] 40)) := by
    have q := hd2.kept b4
    refine ⟨q.m, q.o, q.r, q.a, ?_, ?_, ?_, q.bel⟩
    · rw [HN.out]; exact n6.kept b4
    · rw [HA.out]; exact (Blk.new y2 40 [.int .u64 a0, .int .u64 a1, .int .u64 a2, .int .u64 a3]).alloc _
    · have := Blk.new (y2.alloc (.cells #[.int .u64 a0, .int .u64 a1, .int .u64 a2, .int .u64 a3] 40)) 40 [.int .u64 0, .int .u64 0, .int .u64 0, .int .u64 0]
      rw [World.size_alloc] at this; exact this
  obtain ⟨y4, hy4⟩ : ∃ x, x = (y2.alloc (.cells #[.int .u64 a0, .int .u64 a1, .int .u64 a2, .int .u64 a3] 40)).alloc (.cells #[.int .u64 0, .int .u64 0, .int .u64 0, .int .u64 0] 40) := ⟨_, rfl⟩
  rw [← hy4] at hO4
  obtain ⟨g7, hg7⟩ : ∃ x, x = y2.heap.size := ⟨_, rfl⟩
  rw [← hg7] at hO4
  have hgg7 : w.heap.size + 3 < g7 := by rw [hg7]; exact hd2.a.lt
  have hg67 : g6 < g7 := by rw [hg7]; exact n6.lt
  try simp only [← hy4, ← hg7]
  clear hy4 hg7 hd2 b4 n6 c0 c1 c2 c3 c4
  obtain ⟨c1, c2, c3, c4, c0⟩ := CellA.out _ hO4.bx
  go_upto_block 0 with fail
  go_cut [6, 7, 8] from 20 (fun s6 s7 s8 wc => ∃ (N h6 h7 h8 : Nat), spanN o = some N ∧ s6 = .pointer (some ⟨h6, 0, none⟩) ∧ s7 = .pointer (some ⟨h7, 0, none⟩) ∧ s8 = .pointer (some ⟨h8, 0, none⟩) ∧ OnW w o b sz N (fA o) (fromN o) h6 h7 h8 wc)
  case rest =>
    clear c0 c1 c2 c3 c4 hO4 hgg6 hgg7 hg67 Ci CellA
    obtain ⟨N, h6, h7, h8, hNN, rfl, rfl, rfl, hO⟩ := hcut
    have hNl : N < W256 := (spans_lt k hNN (o.A, N) (by unfold spansL; simp)).2
    obtain ⟨xv, xb, hx, hx1, hx2⟩ := reachV_form (needP sz o.A N)
    obtain ⟨yv, yb, hy, hy1, hy2⟩ := reachV_form (needP sz (fA o) (fromN o))
    have rx := fun u (hu : KAt u w.heap.size b nn sz M) => reach_any w.heap.size b nn sz o.A N M k.A hNl hz4 u hu
    have ry := fun u (hu : KAt u w.heap.size b nn sz M) => reach_any w.heap.size b nn sz (fA o) (fromN o) M (fA_lt k) (fromN_lt k) hz4 u hu
    rw [hx] at rx
    rw [hy] at ry
    have ka : ∀ u, OnW w o b sz N (fA o) (fromN o) h6 h7 h8 u → KAt u w.heap.size b nn sz M := fun u hu => ⟨hu.m, hK.kept hu.bel⟩
    obtain ⟨YA, hYA⟩ : ∃ Y, Y = wcs o.A := ⟨_, rfl⟩
    obtain ⟨YN, hYN⟩ : ∃ Y, Y = wcs N := ⟨_, rfl⟩
    obtain ⟨YF, hYF⟩ : ∃ Y, Y = wcs (fA o) := ⟨_, rfl⟩
    obtain ⟨YK, hYK⟩ : ∃ Y, Y = wcs (fromN o) := ⟨_, rfl⟩
    have hlA : YA.length = 4 := by rw [hYA]; rfl
    have hlN : YN.length = 4 := by rw [hYN]; rfl
    have hlF : YF.length = 4 := by rw [hYF]; rfl
    have hlK : YK.length = 4 := by rw [hYK]; rfl
    rw [← hYA, ← hYN] at rx
    rw [← hYF, ← hYK] at ry
    have rA : wc.rangeAt (w.heap.size + 1) 1 YA := by rw [hYA]; have := hO.o.range 1 4; exact this
    have zN : Blk 40 wc h6 YN := by rw [hYN]; exact hO.n
    have zF : ∀ u, OnW w o b sz N (fA o) (fromN o) h6 h7 h8 u → Blk 40 u h7 YF ∧ Blk 40 u h8 YK := fun u hu => by rw [hYF, hYK]; exact ⟨hu.f, hu.k⟩
    have Rx := Lib.hid rx
    have Ry := Lib.hid ry
    have Ka := Lib.hid ka
    have ZF := Lib.hid zF
    have HNN := Lib.hid hNN
    have hmm := @run_makeMap Try.prog
    clear rx ry ka zF hYA hYN hYF hYK hx hy hNN
    go_upto_region 15 with (first
      | ((with_reducible show wpList _ _ _ (⟨some 51, _, _, _, _, _⟩ :: _) _ _); refine wpList_loadW (o := ⟨some 51, _, _, _, _, _⟩) 40 (.tmp 50) (by rfl) (w.heap.size + 1) 1 (by rfl) aggWord hlA rA (by rfl) ?_)
      | ((with_reducible show wpList _ _ _ (⟨some 52, _, _, _, _, _⟩ :: _) _ _); refine wpList_loadA (o := ⟨some 52, _, _, _, _, _⟩) (by rfl) 40 (.tmp 6) (by rfl) h6 (by rfl) aggWord zN hlN ?_)
      | (go_at_call 110; (with_reducible refine (Rx.out _ (Ka.out _ hO)).mono ?_); rintro e y2 ⟨rfl, b2⟩; have hO2 := hO.kept b2; obtain ⟨zF2, zK2⟩ := ZF.out _ hO2)
      | ((with_reducible show wpList _ _ _ (⟨some 57, _, _, _, _, _⟩ :: _) _ _); refine wpList_loadA (o := ⟨some 57, _, _, _, _, _⟩) (by rfl) 40 (.tmp 7) (by rfl) h7 (by rfl) aggWord zF2 hlF ?_)
      | ((with_reducible show wpList _ _ _ (⟨some 58, _, _, _, _, _⟩ :: _) _ _); refine wpList_loadA (o := ⟨some 58, _, _, _, _, _⟩) (by rfl) 40 (.tmp 8) (by rfl) h8 (by rfl) aggWord zK2 hlK ?_)
      | (go_at_call 110; (with_reducible refine (Ry.out _ (Ka.out _ hO2)).mono ?_); rintro e y3 ⟨rfl, b3⟩; have hO3 := hO2.kept b3))
    clear hO hO2 rA zN zF2 zK2 Rx Ry ZF b2 b3
    by_cases hxb : xb = false
    · subst hxb
      have hsm : sizeM M.length o N = none := by rw [← Hsz.out]; unfold sizeM; rw [hx2 rfl]
      have Hst := Lib.hid (stepM_much (M := M) HNN.out (hsm))
      obtain ⟨MC, hMC⟩ : ∃ X, X = kmc b sz := ⟨_, rfl⟩
      have hMl : MC.length = 2 := by rw [hMC]; rfl
      have hMo : ∀ u ∈ MC, u.oneCell' = true := by rw [hMC]; intro u hu; unfold kmc at hu; simp only [List.mem_cons, List.not_mem_nil, or_false] at hu; rcases hu with rfl | rfl <;> rfl
      have zm := hO3.m
      rw [← hMC] at zm
      have HMC := Lib.hid hMC
      clear hMC
      go_wp2_with (first
        | ((with_reducible show wpList _ _ _ (⟨some 68, _, _, _, _, _⟩ :: _) _ _); refine wpList_loadA (o := ⟨some 68, _, _, _, _, _⟩) (by rfl) 122 (.tmp 2) (by rfl) w.heap.size (by rfl) aggKm zm hMl ?_)
        | ((with_reducible show wpList _ _ _ (⟨none, Op.store _ _ (Operand.tmp 68), _, _, _, _⟩ :: _) _ _); refine wpList_storeA (o := ⟨none, _, _, _, _, _⟩) (by rfl) 122 (.tmp 4) (.tmp 68) (by rfl) (w.heap.size + 2) MC (by rfl) (by rfl) aggKm hO3.r hMl rfl hMo hO3.bel (by omega) ?_; intro y5 z5 b5 gr5; have a5 := hO3.a.grown gr5 (by intro e; injection e; omega))
        | ((with_reducible show wpList _ _ _ (⟨none, Op.store _ _ (Operand.tmp 69), _, _, _, _⟩ :: _) _ _); refine wpList_storeA (o := ⟨none, _, _, _, _, _⟩) (by rfl) 42 (.tmp 5) (.tmp 69) (by rfl) (w.heap.size + 3) (manc ⟨6, 0, 0⟩) (by rfl) (by rfl) aggAns a5 rfl rfl (manc_one _) b5 (by omega) ?_; intro y6 z6' b6 gr6; have r6 := z5.grown gr6 (by intro e; injection e; omega)))
      refine bodyPost_ret (results_blk2 rfl _ _ aggKm aggAns r6 z6' hMl rfl rfl rfl) rfl ?_
      unfold OnePost
      rw [Hst.out]
      refine ⟨b, nn, by rw [HMC.out, Hsz.out], ?_, by omega, b6⟩
      exact hK.kept b6
    obtain rfl : xb = true := by simpa using hxb
    by_cases hyb : yb = false
    · subst hyb
      have hsm : sizeM M.length o N = none := by rw [← Hsz.out]; unfold sizeM; rw [← need_fA, hy2 rfl, hx1 rfl]
      have Hst := Lib.hid (stepM_much (M := M) HNN.out (hsm))
      obtain ⟨MC, hMC⟩ : ∃ X, X = kmc b sz := ⟨_, rfl⟩
      have hMl : MC.length = 2 := by rw [hMC]; rfl
      have hMo : ∀ u ∈ MC, u.oneCell' = true := by rw [hMC]; intro u hu; unfold kmc at hu; simp only [List.mem_cons, List.not_mem_nil, or_false] at hu; rcases hu with rfl | rfl <;> rfl
      have zm := hO3.m
      rw [← hMC] at zm
      have HMC := Lib.hid hMC
      clear hMC
      go_wp2_with (first
        | ((with_reducible show wpList _ _ _ (⟨some 68, _, _, _, _, _⟩ :: _) _ _); refine wpList_loadA (o := ⟨some 68, _, _, _, _, _⟩) (by rfl) 122 (.tmp 2) (by rfl) w.heap.size (by rfl) aggKm zm hMl ?_)
        | ((with_reducible show wpList _ _ _ (⟨none, Op.store _ _ (Operand.tmp 68), _, _, _, _⟩ :: _) _ _); refine wpList_storeA (o := ⟨none, _, _, _, _, _⟩) (by rfl) 122 (.tmp 4) (.tmp 68) (by rfl) (w.heap.size + 2) MC (by rfl) (by rfl) aggKm hO3.r hMl rfl hMo hO3.bel (by omega) ?_; intro y5 z5 b5 gr5; have a5 := hO3.a.grown gr5 (by intro e; injection e; omega))
        | ((with_reducible show wpList _ _ _ (⟨none, Op.store _ _ (Operand.tmp 69), _, _, _, _⟩ :: _) _ _); refine wpList_storeA (o := ⟨none, _, _, _, _, _⟩) (by rfl) 42 (.tmp 5) (.tmp 69) (by rfl) (w.heap.size + 3) (manc ⟨6, 0, 0⟩) (by rfl) (by rfl) aggAns a5 rfl rfl (manc_one _) b5 (by omega) ?_; intro y6 z6' b6 gr6; have r6 := z5.grown gr6 (by intro e; injection e; omega)))
      refine bodyPost_ret (results_blk2 rfl _ _ aggKm aggAns r6 z6' hMl rfl rfl rfl) rfl ?_
      unfold OnePost
      rw [Hst.out]
      refine ⟨b, nn, by rw [HMC.out, Hsz.out], ?_, by omega, b6⟩
      exact hK.kept b6
    obtain rfl : yb = true := by simpa using hyb
    have hsm : sizeM M.length o N = some (max xv yv) := by rw [← Hsz.out]; unfold sizeM; rw [← need_fA, hy1 rfl, hx1 rfl]
    obtain ⟨S, hS⟩ : ∃ S, S = max xv yv := ⟨_, rfl⟩
    rw [← hS] at hsm
    have hle := sizeM_le hM hsm
    have hst := stepM_does (M := M) HNN.out hsm
    have hmax : max (xv : Int) (yv : Int) = (S : Int) := by omega
    have hml : (growM M S).length = S := by rw [growM_len]; omega
    have Hle := Lib.hid hle
    have Hst := Lib.hid hst
    have Hml := Lib.hid hml
    clear hsm hst hle hml hS hx1 hx2 hy1 hy2 hxb hyb
    go_upto_region 18 with fail
    obtain ⟨bo, hbo⟩ : ∃ x, x = y3.heap.size := ⟨_, rfl⟩
    have b4 : Below y3.heap.size y3 ((y3.alloc (.map #[] 0)).alloc (.cells #[.map (some y3.heap.size), .int .u64 (S : Int)] 122)) := ((Below.refl _ _).alloc (Nat.le_refl _) _).alloc (by simp) _
    have out4 : ((y3.alloc (.map #[] 0)).alloc (.cells #[.map (some y3.heap.size), .int .u64 (S : Int)] 122)).ownsMap Try.prog 36 (plainElem (H := Unit) Try.prog 5) y3.heap.size 0 (.map []) := (World.ownsMap_made y3 _ _ _).alloc _
    have z13 : Blk 122 ((y3.alloc (.map #[] 0)).alloc (.cells #[.map (some y3.heap.size), .int .u64 (S : Int)] 122)) (y3.heap.size + 1) (kmc y3.heap.size S) := by
      have := Blk.new (y3.alloc (.map #[] 0)) 122 (kmc y3.heap.size S)
      rw [World.size_alloc] at this; exact this
    have e4 : ((y3.alloc (.map #[] 0)).alloc (.cells #[.map (some y3.heap.size), .int .u64 (S : Int)] 122)).heap.size = y3.heap.size + 2 := by simp
    have hO4 := hO3.kept b4
    obtain ⟨wA, hwA⟩ : ∃ x, x = (y3.alloc (.map #[] 0)).alloc (.cells #[.map (some y3.heap.size), .int .u64 (S : Int)] 122) := ⟨_, rfl⟩
    rw [← hwA] at b4 out4 z13 e4 hO4
    rw [← hbo] at out4 z13 e4
    try simp only [← hwA]
    try simp only [← hbo]
    obtain ⟨D, hD, hSD⟩ := hK.kept hO4.bel
    have c2 : wA.cell? ⟨w.heap.size, 0, none⟩ = some (.map (some b)) := hO4.m.cell 0
    have hbl : b < bo := by rw [hbo]; exact Nat.lt_of_lt_of_le hK.lt hO3.bel.size
    have hbel3 := hO3.bel
    have Hbo := Lib.hid hbo
    clear hwA hbo hO4
    go_wp2_with (at_range; refine wpList_range_own _ rfl _ 120 rfl 36 5 lawU64 Try.underlying120 _ b nn D rfl hD ?_; intro wB hrg0 hg0 hs0)
    try go_frame
    rw [e4] at hrg0 hs0 ⊢
    go_loopw [14] (fun _ wr => ∃ (left : Lit → Bool) (cnt m : Nat) (Dout : DU), wr.ranges Try.prog 36 (plainElem (H := Unit) Try.prog 5) b (bo + 2) nn D left cnt ∧ m + cnt ≤ nn ∧
      wr.ownsMap Try.prog 36 (plainElem (H := Unit) Try.prog 5) bo m Dout ∧ Maps.Agree Dout D left ∧ Below y3.heap.size y3 wr ∧ Blk 122 wr (bo + 1) (kmc bo S)) (fun _ wr => wr.rangeLeft b (bo + 2))
    case atStart =>
      exact ⟨_, _, 0, .map [], hrg0, by have := hD.size_le; omega, out4.kept hg0 (by simp), Maps.agree_start D, b4.grown hg0 b4.size (fun j hj => by cases hj), z13.grown hg0 (by simp)⟩
    case round =>
      clear hrg0 hg0 hs0 out4 z13 b4 c2
      obtain ⟨left, cnt, m, Dout, hrg, hcs, hout, hA, hnx, zk⟩ := hrel
      have c13 : wr.cell? ⟨bo + 1, 0, none⟩ = some (.map (some bo)) := zk.cell 0
      go_upto_region 22 with (at_next; refine wpList_next_ranges_ii _ rfl _ rfl 36 5 .u64 .u8 lawU64 Try.underlying36 Try.underlying5 b (bo + 2) nn _ _ _ rfl hrg ?_ ?_)
      · intro hc0 hl0
        go_upto_region 22 with fail
        have hDD : Dout = D := Maps.agree_end hA hl0 (hout.canon lawU64) (hrg.owns.canon lawU64)
        obtain ⟨Mg, hMg⟩ : ∃ X, X = growM M S := ⟨_, rfl⟩
        have hKo : KM wr bo nn Mg := by rw [hMg]; exact KM.grow ⟨Dout, hout.mono (by omega), by rw [hDD]; exact hSD⟩ S
        have hOr := hO3.kept hnx
        have hbo3 : w.heap.size + 3 < bo := by rw [Hbo.out]; exact hO3.a.lt
        have hKr : KAt wr w.heap.size b nn sz M := ⟨hOr.m, hK.kept hOr.bel⟩
        have HMg := Lib.hid hMg
        rw [← hMg] at Hst Hml
        have c131 : wr.cell? ⟨bo + 1, 1, none⟩ = some (.int .u64 (S : Int)) := zk.cell 1
        have c21 : wr.cell? ⟨w.heap.size, 1, none⟩ = some (.int .u64 (sz : Int)) := hOr.m.cell 1
        obtain ⟨C1, hC1⟩ : ∃ C, C = costN (S / 32) := ⟨_, rfl⟩
        obtain ⟨C2, hC2⟩ : ∃ C, C = costN (sz / 32) := ⟨_, rfl⟩
        have hS4 := Hle.out.2.1
        have hSz : sz ≤ S := by have := Hle.out.1; rw [← Hsz.out] at this; exact this
        have hcl : C2 ≤ C1 := by rw [hC1, hC2]; exact costN_mono (Nat.div_le_div_right hSz) (by omega)
        have hcs1 : C1 ≤ 640 := by rw [hC1]; exact costN_small _
        have hpr : priceN M.length S = C1 - C2 := by rw [← Hsz.out, priceN_sub hSz, hC1, hC2]
        have hsub : IntKind.u64.wrap ((C1 : Int) - (C2 : Int)) = ((C1 - C2 : Nat) : Int) := by rw [IntWalk.u64_in _ ⟨by omega, by omega⟩]; omega
        rw [hpr] at Hst
        obtain ⟨C, hC⟩ : ∃ C, C = C1 - C2 := ⟨_, rfl⟩
        rw [← hC] at Hst hsub
        obtain ⟨q1, hq1⟩ : ∃ q, q = S / 32 := ⟨_, rfl⟩
        obtain ⟨q2, hq2⟩ : ∃ q, q = sz / 32 := ⟨_, rfl⟩
        have m1 : ∀ u : World, Calls Try.prog 18 #[.int .i64 (q1 : Int)] u fun e w' => e = .returned (.int .u64 (C1 : Int)) ∧ Below u.heap.size u w' := fun u => by
          have := kcost_any (q1 : Int) (by simp only [Lit.wf, show IntKind.i64.min = -9223372036854775808 from rfl, show IntKind.i64.max = 9223372036854775807 from rfl, Bool.and_eq_true, decide_eq_true_eq]; omega) u
          rw [costI_nat, hq1, ← hC1, ← hq1] at this; exact this
        have m2 : ∀ u : World, Calls Try.prog 18 #[.int .i64 (q2 : Int)] u fun e w' => e = .returned (.int .u64 (C2 : Int)) ∧ Below u.heap.size u w' := fun u => by
          have := kcost_any (q2 : Int) (by simp only [Lit.wf, show IntKind.i64.min = -9223372036854775808 from rfl, show IntKind.i64.max = 9223372036854775807 from rfl, Bool.and_eq_true, decide_eq_true_eq]; omega) u
          rw [costI_nat, hq2, ← hC2, ← hq2] at this; exact this
        have d1 : IntKind.i64.wrap (q1 : Int) = (q1 : Int) := IntWalk.i64_in _ (by omega)
        have d2 : IntKind.i64.wrap (q2 : Int) = (q2 : Int) := IntWalk.i64_in _ (by omega)
        have d3 : IntKind.u64.wrap (q1 : Int) = (q1 : Int) := IntWalk.u64_in _ ⟨by omega, by omega⟩
        have d4 : IntKind.u64.wrap (q2 : Int) = (q2 : Int) := IntWalk.u64_in _ ⟨by omega, by omega⟩
        have e1 : (S : Int) / 32 = (q1 : Int) := by omega
        have e2 : (sz : Int) / 32 = (q2 : Int) := by omega
        have M1 := Lib.hid m1
        have M2 := Lib.hid m2
        clear hmm hmax hc0 m1 m2 hC1 hC2 hq1 hq2 hMg hDD hout hrg hA hl0 hO3 hSD hD hpr hcl hcs1 hC c13 hcs
        have k1 := fun u : Ext wr => u.cell c131
        have k2 := fun u : Ext wr => u.cell c21
        refine wp_region_typed wr 13 (by kernel_rfl) (by kernel_rfl) (Below.refl _ _) ?_; simp only [List.take_succ_cons, List.take_zero, List.take_nil]
        iterate 4 (refine wpX_step (by rfl) (fun K hK => ?_); go_simp; first | (refine hK _ ?_; clear hK K) | (apply Exists.intro; refine ⟨fun _ => ?_, hK _ ?_⟩; fail; clear hK K))
        (refine wpX_step (by rfl) (fun K hK => ?_); go_simp; first | (refine hK _ ?_; clear hK K) | (apply Exists.intro; refine ⟨fun _ => ?_, hK _ ?_⟩; exact M1.out _; clear hK K))
        iterate 4 (refine wpX_step (by rfl) (fun K hK => ?_); go_simp; first | (refine hK _ ?_; clear hK K) | (apply Exists.intro; refine ⟨fun _ => ?_, hK _ ?_⟩; fail; clear hK K))
        (refine wpX_step (by rfl) (fun K hK => ?_); go_simp; first | (refine hK _ ?_; clear hK K) | (apply Exists.intro; refine ⟨fun _ => ?_, hK _ ?_⟩; exact M2.out _; clear hK K))
        iterate 2 (refine wpX_step (by rfl) (fun K hK => ?_); go_simp; first | (refine hK _ ?_; clear hK K) | (apply Exists.intro; refine ⟨fun _ => ?_, hK _ ?_⟩; fail; clear hK K))
        refine wpX_rel 16 (PtrT 42 z6 wr.heap.size) rfl (of_decide_eq_true rfl) (PtrT.mono _ _ _) (fun w3 hw3 => ?_) ?_
        · show _ ∧ _
          refine ⟨by rfl, ?_⟩
          go_simp
          exact ⟨(Below.refl _ _).alloc (Nat.le_refl _) _, w3.heap.size, rfl, Blk.new w3 42 z6, hw3.size⟩
        refine wpX_nil ?_
        intro y5 b5
        show ∀ v, PtrT 42 z6 wr.heap.size v y5 → wpList _ _ _ [_] _ _
        rintro v16 ⟨g16, rfl, z16, hg16⟩
        try simp only [Act.put, List.setIfInBounds_toArray, List.set_cons_zero, List.set_cons_succ]
        clear k1 k2 M1 M2 c131 c21 e1 e2 d1 d2 d3 d4 hsub
        go_upto_region 23 with ((with_reducible show wpList _ _ _ (⟨none, Op.store _ _ (Operand.tmp 98), _, _, _, _⟩ :: _) _ _); refine wpList_storeA (o := ⟨none, _, _, _, _, _⟩) (by rfl) 42 (.tmp 16) (.tmp 98) (by rfl) g16 [.int .i64 0, .int .u64 0, .int .u64 0, .int .u64 0, .int .u64 0, .int .u64 (C : Int)] (by rfl) (by rfl) aggAns z16 rfl rfl (by rw [← manc_zero]; exact manc_one _) (Below.refl g16 y5) (Nat.le_refl _) ?_; intro y6 z6' b6 gr6)
        have b56 : Below wr.heap.size wr y6 := b5.grown gr6 b5.size (fun j hj => by cases hj; exact hg16)
        have hO6 := hOr.kept b56
        have hK6 := hKr.kept b56
        clear z16 b5 b6 gr6
        have A0 := Lib.hid (lim_small (x := o.A))
        have c0 : y6.cell? ⟨w.heap.size + 1, 0, none⟩ = some (.int .i64 kk) := by rw [HKK.out]; exact hO6.o.cell 0
        have hspan := HNN.out
        go_upto_block 3 with fail
        go_cut [17] from 99 (fun s17 wx => ∃ d : List UInt8, d = dataM Mg o ∧ Bytes wx s17 d ∧ Below wr.heap.size wr wx ∧ Blk 42 wx g16 (manc ⟨0, wordM Mg o, C⟩))
        case rest =>
          have hg16b : bo + 1 < g16 := Nat.lt_of_lt_of_le zk.lt hg16
          clear c0 z6' b56 hO6 hK6 hg16 A0 hspan
          obtain ⟨d, hd, hrow, bx, zx⟩ := hcut
          obtain ⟨ad, nd, hnd, cd, hs17, _⟩ : ∃ ad nd, nd = d.length ∧ ∃ cd, u17 = .slice ad nd cd ∧ True := by
            obtain ⟨a1, c1, h1, _⟩ := hrow.form
            exact ⟨a1, _, rfl, c1, h1, trivial⟩
          subst hs17
          have hbo2 : bo + 1 < wr.heap.size := zk.lt
          have hOx := hOr.kept bx
          have zkx := zk.kept bx
          have hKx := hKo.kept bx
          have hdl : d.length = 0 ∨ o.A + d.length ≤ Mg.length := by
            have h1 := dataM_len (M := Mg) HNN.out (by rw [Hml.out]; exact Hle.out.2.2.2)
            rw [← hd] at h1
            have h2 := Hle.out.2.2.1
            rw [← Hml.out] at h2
            omega
          have hd4 : nd ≤ 4096 := by have h1 := Hml.out; have h2 := Hle.out.2.1; omega
          have Hnd := Lib.hid hnd
          have Hd := Lib.hid hd
          have Hdl := Lib.hid hdl
          clear hnd hd hdl hOr hKo zk hKr
          go_wp2_with fail
          go_loopw [137] (fun ix wz => ∃ i : Nat, i ≤ nd ∧ ix = .int .i64 (i : Int) ∧ KM wz bo (nn + i) (putM Mg o.A (d.take i)) ∧ Below w.heap.size w wz ∧ Blk 122 wz (bo + 1) (kmc bo S) ∧ Blk 42 wz g16 (manc ⟨0, wordM Mg o, C⟩) ∧ BxW w o b sz wz ∧ Bytes wz (.slice ad nd cd) d) (fun ix _ => nd - (intOf ix).toNat)
          case atStart => exact ⟨0, by omega, rfl, by rw [List.take_zero, putM_nil]; exact hKx, hOx.bel, zkx, zx, hOx.bx, hrow⟩
          case round =>
            clear hKx hOx zkx zx hrow bx
            obtain ⟨i, hin, rfl, hKi, hbz, zkz, zxz, hBz, hrz⟩ := hrel
            by_cases hlt : i < nd
            · have hz : (i : Int) < (nd : Int) := by omega
              have hid : i < d.length := by rw [← Hnd.out]; exact hlt
              obtain ⟨rb, ro, rfl, rc⟩ := Bytes.at hrz i hid
              have hAl : o.A + d.length ≤ Mg.length := Hdl.out.resolve_left (by omega)
              have hA4 : o.A + nd ≤ 4096 := by have h1 := Hml.out; have h2 := Hle.out.2.1; have h3 := Hnd.out; omega
              have cA : wr.cell? ⟨w.heap.size + 1, 1, none⟩ = some (.int .u64 (o.A : Int)) := by have := hBz.o.cell 1; rw [show (mopc o)[1]? = some (.int .u64 (lim o.A 0 : Int)) from rfl, lim_small (by omega)] at this; exact this
              have c13 : wr.cell? ⟨bo + 1, 0, none⟩ = some (.map (some bo)) := zkz.cell 0
              have hst := putM_step hid hAl
              have hpl : (putM Mg o.A (d.take i)).length = Mg.length := putM_len (by right; rw [List.length_take]; omega)
              obtain ⟨x, hx⟩ : ∃ x, x = d[i] := ⟨_, rfl⟩
              rw [← hx] at rc hst
              have hwi : IntKind.u64.wrap (i : Int) = (i : Int) := IntWalk.u64_in _ ⟨by omega, by omega⟩
              have hsum : IntKind.u64.wrap ((o.A : Int) + (i : Int)) = ((o.A + i : Nat) : Int) := by rw [IntWalk.u64_in _ ⟨by omega, by omega⟩]; omega
              obtain ⟨AI, hAI⟩ : ∃ q, q = o.A + i := ⟨_, rfl⟩
              rw [← hAI] at hsum hst
              have hkey := keyU64 AI (by omega)
              obtain ⟨DI, hDI, hSI⟩ := hKi
              have hSp := hSI.put hDI.isMap (k := AI) (by rw [hpl, hAI]; omega) x
              rw [← hst] at hSp
              have HSp := Lib.hid hSp
              clear hst hSp hSI hAI hpl hAl hx
              have hbm : bo < w.heap.size → False := fun h => by have := hbl; have h2 := Hbo.out; have h3 := hbel3.size; omega
              go_wp2_with (at_mapUpdate; refine wpList_mapUpdate_own _ rfl _ _ _ 120 rfl 36 5 lawU64 Try.underlying120 _ bo (nn + i) _ rfl hDI (by unfold maxLen; omega) _ _ _ rfl rfl hkey _ [] (plainElem_int Try.underlying5 (wfU8 x)) ?_; intro w2 hD2 hg2; go_frame)
              go_roundw
              case rel =>
                have nb : ∀ {e : TypeId} {q : Nat} {cs : List Value}, Blk e wr q cs → some bo ≠ some q := fun {e q cs} h e2 => by
                  obtain ⟨es, clock, hm, _⟩ := hDI
                  have h1 : wr.heap[q]? = some (.cells cs.toArray e (0, 0)) := h
                  cases e2
                  rw [hm] at h1
                  cases h1
                refine ⟨i + 1, by omega, by go_num, ⟨_, hD2, HSp.out⟩, hbz.grown hg2 hbz.size (fun j hj => by cases hj; exact Nat.le_of_not_lt hbm), zkz.grown hg2 (nb zkz), zxz.grown hg2 (nb zxz), ⟨hBz.m.grown hg2 (nb hBz.m), hBz.o.grown hg2 (nb hBz.o), hBz.r.grown hg2 (nb hBz.r), hBz.a.grown hg2 (nb hBz.a), hbz.grown hg2 hbz.size (fun j hj => by cases hj; exact Nat.le_of_not_lt hbm)⟩, ?_⟩
                exact hrz.grownNe hg2 (fun e => by
                  obtain ⟨es, clock, hm, _⟩ := hDI
                  subst e
                  simp [World.cell?, hm] at rc)
              case measure => simp [intOf]; omega
            · obtain rfl : i = nd := by omega
              have hz : ¬ (i : Int) < (i : Int) := by omega
              have hta : d.take i = d := by rw [Hnd.out, List.take_length]
              rw [hta] at hKi
              obtain ⟨KC, hKC⟩ : ∃ X, X = kmc bo S := ⟨_, rfl⟩
              have hKl : KC.length = 2 := by rw [hKC]; rfl
              have hKo2 : ∀ u ∈ KC, u.oneCell' = true := by rw [hKC]; intro u hu; unfold kmc at hu; simp only [List.mem_cons, List.not_mem_nil, or_false] at hu; rcases hu with rfl | rfl <;> rfl
              obtain ⟨CA, hCA⟩ : ∃ X, X = manc ⟨0, wordM Mg o, C⟩ := ⟨_, rfl⟩
              have hCl : CA.length = 6 := by rw [hCA]; rfl
              have hCo : ∀ u ∈ CA, u.oneCell' = true := by rw [hCA]; exact manc_one _
              rw [← hKC] at zkz
              rw [← hCA] at zxz
              have HKC := Lib.hid hKC
              have HCA := Lib.hid hCA
              clear hKC hCA hta
              go_upto_region 41 with fail
              refine wp_region_h ((fun u => Blk 122 u (bo + 1) KC ∧ Blk 42 u g16 CA)) (by kernel_rfl) ?_; intro x0 hx0; simp only [List.length_cons, List.length_nil, Nat.reduceAdd, List.replicate_succ, List.replicate_zero]
              have X0 : KM x0 bo (nn + i) (putM Mg o.A d) ∧ Below w.heap.size w x0 ∧ BxW w o b sz x0 := by rw [hx0]; exact ⟨hKi.kept (Below.refl _ _).drew, hbz.trans ((Below.refl _ _).drew.mono hbz.size), hBz.kept (Below.refl _ _).drew⟩
              have hT0 : (fun u => Blk 122 u (bo + 1) KC ∧ Blk 42 u g16 CA) x0 := by rw [hx0]; exact ⟨zkz.drew, zxz.drew⟩
              clear hx0 hKi hbz zkz zxz hBz hrz
              (refine wpH_take 0 (by rfl) (by kernel_rfl) (by intro _ _ _ h; first | exact h | (cases h.1)) (by intro _ _ _ _ h; first | exact h | (cases h.1)) (by assumption) (fun K hK => ?_); simp only [List.setIfInBounds_toArray, List.set_cons_zero, List.set_cons_succ] at hK; refine take_loadA (by rfl) 122 (.tmp 13) (by rfl) (bo + 1) (by rfl) aggKm (fun u hu => hu.1) hKl (hK _ ?_); clear hK K; simp only [Act.put, List.getElem_toArray, List.getElem_cons_zero, List.getElem_cons_succ, List.setIfInBounds_toArray, List.set_cons_zero, List.set_cons_succ])
              (refine wpH_take 1 (by rfl) (by kernel_rfl) (by intro _ _ _ h; first | exact h | (cases h.1)) (by intro _ _ _ _ h; first | exact h | (cases h.1)) (by assumption) (fun K hK => ?_); simp only [List.setIfInBounds_toArray, List.set_cons_zero, List.set_cons_succ] at hK; refine take_loadA (by rfl) 42 (.tmp 16) (by rfl) (g16) (by rfl) aggAns (fun u hu => hu.2) hCl (hK _ ?_); clear hK K; simp only [Act.put, List.getElem_toArray, List.getElem_cons_zero, List.getElem_cons_succ, List.setIfInBounds_toArray, List.set_cons_zero, List.set_cons_succ])
              (refine wpH_only 2 (by rfl) (by kernel_rfl) (fun K hK => ?_); simp only [List.setIfInBounds_toArray, List.set_cons_zero, List.set_cons_succ] at hK; refine step_storeA (by rfl) 122 (.tmp 4) (.tmp 152) (by rfl) (w.heap.size + 2) KC (by rfl) (by rfl) aggKm X0.2.2.r hKl rfl hKo2 ?_; intro x2 zr2 br2 gr2; simp only [Act.put, List.getElem_toArray, List.getElem_cons_zero, List.getElem_cons_succ, List.setIfInBounds_toArray, List.set_cons_zero, List.set_cons_succ])
              have hT2 : (fun u => Blk 122 u (bo + 1) KC ∧ Blk 42 u g16 CA) x2 := ⟨hT0.1.grown gr2 (by intro e; injection e; omega), hT0.2.grown gr2 (by intro e; injection e; omega)⟩
              refine hK _ _ hT2 ?_; clear hK K
              have a2 := X0.2.2.a.grown gr2 (by intro e; injection e; omega)
              (refine wpH_only 3 (by rfl) (by kernel_rfl) (fun K hK => ?_); simp only [List.setIfInBounds_toArray, List.set_cons_zero, List.set_cons_succ] at hK; refine step_storeA (by rfl) 42 (.tmp 5) (.tmp 153) (by rfl) (w.heap.size + 3) CA (by rfl) (by rfl) aggAns a2 hCl rfl hCo ?_; intro x3 zr3 br3 gr3; simp only [Act.put, List.getElem_toArray, List.getElem_cons_zero, List.getElem_cons_succ, List.setIfInBounds_toArray, List.set_cons_zero, List.set_cons_succ])
              have hT3 : (fun u => Blk 122 u (bo + 1) KC ∧ Blk 42 u g16 CA) x3 := ⟨hT2.1.grown gr3 (by intro e; injection e; omega), hT2.2.grown gr3 (by intro e; injection e; omega)⟩
              refine hK _ _ hT3 ?_; clear hK K
              have r3' := zr2.grown gr3 (by intro e; injection e; omega)
              refine wpH_done (by kernel_rfl) ?_
              go_wp2_with fail
              refine bodyPost_ret (results_blk2 rfl _ _ aggKm aggAns r3' zr3 hKl hCl rfl rfl) rfl ?_
              unfold OnePost
              have hpl : (putM Mg o.A d).length = S := by rw [putM_len Hdl.out, Hml.out]
              rw [Hst.out, ← Hd.out]
              refine ⟨bo, nn + i, ?_, (X0.1.grown gr2 (by intro e; injection e; omega)).grown gr3 (by intro e; injection e; omega), by omega, (X0.2.1.grown gr2 X0.2.1.size (fun j hj => by cases hj; omega)).grown gr3 (Nat.le_trans X0.2.1.size gr2.size) (fun j hj => by cases hj; omega)⟩
              rw [HKC.out, HCA.out]
              show _ = Ending.returned (.tuple #[.agg (kmc bo (putM Mg o.A d).length).toArray, _])
              rw [hpl]
        case first =>
          by_cases h1 : kk = 1
          · subst h1
            have hk := HKK.out
            obtain rfl : N = 32 := by unfold spanN at hspan; rw [← hk] at hspan; simpa using hspan.symm
            have hAs := Hle.out.2.2.1.resolve_left (by omega)
            have cA : y6.cell? ⟨w.heap.size + 1, 1, none⟩ = some (.int .u64 (o.A : Int)) := by have := hO6.o.cell 1; rw [show (mopc o)[1]? = some (.int .u64 (lim o.A 0 : Int)) from rfl, A0.out (by omega)] at this; exact this
            have rc := kread_any w.heap.size b nn sz o.A 32 M (by omega) (by omega) y6 hK6
            have hrp : rdM M o.A 32 = (Mg.drop o.A).take 32 := by rw [← rdM_part Mg o.A 32 (by rw [Hml.out]; exact hAs), HMg.out]; unfold rdM; simp only [getD_grow]
            obtain ⟨L, hL⟩ : ∃ L, L = rdM M o.A 32 := ⟨_, rfl⟩
            have hLl : L.length = 32 := by rw [hL, rdM_len]
            rw [← hL] at rc
            obtain ⟨r0, r1, r2, r3, hR⟩ : ∃ r0 r1 r2 r3 : Int, wcs (numL L) = [.int .u64 r0, .int .u64 r1, .int .u64 r2, .int .u64 r3] := ⟨_, _, _, _, rfl⟩
            have wrd : ∀ u a c, Bytes u (.slice a 32 c) L → Calls Try.prog 111 #[.slice a 32 c] u fun e w' => e = .returned (.agg #[.int .u64 r0, .int .u64 r1, .int .u64 r2, .int .u64 r3]) ∧ Below u.heap.size u w' := fun u a c hu => by
              have := wread_any a c L u (by rw [hLl]; exact hu)
              rw [show last32 L = L from by unfold last32; rw [hLl]; rfl, hLl] at this
              unfold wv at this
              rw [hR] at this
              exact this
            have Rc := Lib.hid rc
            have Wrd := Lib.hid wrd
            have HR := Lib.hid hR
            have hwd : wordM Mg o = numL L := by unfold wordM; rw [← hk, hL, hrp]; rfl
            have hdt : dataM Mg o = [] := by unfold dataM; rw [← hk]; rfl
            have zf : ∀ u, Blk 42 u g16 [.int .i64 0, .int .u64 r0, .int .u64 r1, .int .u64 r2, .int .u64 r3, .int .u64 (C : Int)] → Blk 42 u g16 (manc ⟨0, wordM Mg o, C⟩) := fun u hu => by
              have e : manc ⟨0, wordM Mg o, C⟩ = [.int .i64 0, .int .u64 r0, .int .u64 r1, .int .u64 r2, .int .u64 r3, .int .u64 (C : Int)] := by rw [hwd]; unfold manc; rw [hR]; rfl
              rw [e]; exact hu
            have Zf := Lib.hid zf
            have Hdt := Lib.hid hdt
            clear rc wrd hR hL hrp hwd hdt hspan hk zf HR
            go_wp2_with (first
              | (go_at_call 58; refine Rc.out.mono ?_; rintro e y7 ⟨v7, rfl, o7, b7⟩; obtain ⟨va7, vc7, rfl, _⟩ := o7.form' 32 hLl; have z7 := z6'.kept b7; have b67 := Below.then b56 b7)
              | (go_at_call 111; refine (Wrd.out _ _ _ o7.row).mono ?_; rintro e y8 ⟨rfl, b8'⟩; have z8' := z7.kept b8'; have b68 := Below.then b67 b8'; have q1 : y8.cell? ⟨g16, 1, none⟩ = some (.int .u64 0) := z8'.cell 1; have q2 : y8.cell? ⟨g16, 2, none⟩ = some (.int .u64 0) := z8'.cell 2; have q3 : y8.cell? ⟨g16, 3, none⟩ = some (.int .u64 0) := z8'.cell 3; have q4 : y8.cell? ⟨g16, 4, none⟩ = some (.int .u64 0) := z8'.cell 4; have f1 := z8'.free 1; have f2 := z8'.free 2; have f3 := z8'.free 3; have f4 := z8'.free 4))
            go_meet
            case rel =>
              refine ⟨[], Hdt.out.symm, RowOf.nil _ _ _, (((b68.setCell (p := ⟨g16, 1, none⟩) hg16 _).setCell (p := ⟨g16, 2, none⟩) hg16 _).setCell (p := ⟨g16, 3, none⟩) hg16 _).setCell (p := ⟨g16, 4, none⟩) hg16 _, ?_⟩
              exact Zf.out _ ((((z8'.set 1 _).set 2 _).set 3 _).set 4 _)
          by_cases h2 : kk = 2
          · subst h2
            have hk := HKK.out
            obtain ⟨YX, hYX⟩ : ∃ Y, Y = wcs o.X := ⟨_, rfl⟩
            have hlX : YX.length = 4 := by rw [hYX]; rfl
            have rX : y6.rangeAt (w.heap.size + 1) 13 YX := by rw [hYX]; have := hO6.o.range 13 4; exact this
            have wb2 : ∀ u : World, Calls Try.prog 112 #[.agg YX.toArray] u fun e w' => ∃ v, e = .returned v ∧ OwnOf b8 1 5 w' u.heap.size v (wb o.X) ∧ Below u.heap.size u w' := fun u => by rw [hYX]; exact wbytes_any o.X u
            have Wb := Lib.hid wb2
            have hwd : wordM Mg o = 0 := by unfold wordM; rw [← hk]; rfl
            have hdt : dataM Mg o = wb o.X := by unfold dataM; rw [← hk]; rfl
            have Hwd := Lib.hid hwd
            have Hdt := Lib.hid hdt
            have hwl := wb_len o.X
            clear wb2 hYX hwd hdt hspan hk
            go_wp2_with (first
              | ((with_reducible show wpList _ _ _ (⟨some 112, _, _, _, _, _⟩ :: _) _ _); refine wpList_loadW (o := ⟨some 112, _, _, _, _, _⟩) 40 (.tmp 111) (by rfl) (w.heap.size + 1) 13 (by rfl) aggWord hlX rX (by rfl) ?_)
              | (go_at_call 112; refine (Wb.out _).mono ?_; rintro e y7 ⟨v7, rfl, o7, b7⟩; obtain ⟨va7, vc7, rfl, _⟩ := o7.form' 32 hwl; have z7 := z6'.kept b7; have b67 := Below.then b56 b7))
            go_meet
            case rel => exact ⟨wb o.X, Hdt.out.symm, o7.row, b67, by rw [Hwd.out, manc_zero]; exact z7⟩
          by_cases h3 : kk = 3
          · subst h3
            have hk := HKK.out
            obtain ⟨YX, hYX⟩ : ∃ Y, Y = wcs o.X := ⟨_, rfl⟩
            have hlX : YX.length = 4 := by rw [hYX]; rfl
            have rX : y6.rangeAt (w.heap.size + 1) 13 YX := by rw [hYX]; have := hO6.o.range 13 4; exact this
            have wb2 : ∀ u : World, Calls Try.prog 112 #[.agg YX.toArray] u fun e w' => ∃ v, e = .returned v ∧ OwnOf b8 1 5 w' u.heap.size v (wb o.X) ∧ Below u.heap.size u w' := fun u => by rw [hYX]; exact wbytes_any o.X u
            have Wb := Lib.hid wb2
            have hwd : wordM Mg o = 0 := by unfold wordM; rw [← hk]; rfl
            have hdt : dataM Mg o = (wb o.X).drop 31 := by unfold dataM; rw [← hk]; rfl
            have Hwd := Lib.hid hwd
            have Hdt := Lib.hid hdt
            have hwl := wb_len o.X
            clear wb2 hYX hwd hdt hspan hk
            go_wp2_with (first
              | ((with_reducible show wpList _ _ _ (⟨some 117, _, _, _, _, _⟩ :: _) _ _); refine wpList_loadW (o := ⟨some 117, _, _, _, _, _⟩) 40 (.tmp 116) (by rfl) (w.heap.size + 1) 13 (by rfl) aggWord hlX rX (by rfl) ?_)
              | (go_at_call 112; refine (Wb.out _).mono ?_; rintro e y7 ⟨v7, rfl, o7, b7⟩; obtain ⟨va7, vc7, rfl, _⟩ := o7.form' 32 hwl; have z7 := z6'.kept b7; have b67 := Below.then b56 b7; obtain ⟨sa, sc, srun, srow⟩ := RowOf.from elU8 o7.row 31 (by omega) 31 rfl))
            go_meet
            case rel => exact ⟨(wb o.X).drop 31, Hdt.out.symm, srow, b67, by rw [Hwd.out, manc_zero]; exact z7⟩
          by_cases h4 : kk = 4
          · subst h4
            have hk := HKK.out
            obtain rfl : N = o.L := by unfold spanN at hspan; rw [← hk] at hspan; simpa using hspan.symm
            have hfr : fromN o = o.L := by unfold fromN; rw [← hk]; rfl
            have hF2 := Hle.out.2.2.2
            rw [hfr] at hF2
            have hzK := hO6.k
            rw [hfr] at hzK
            have hwd : wordM Mg o = 0 := by unfold wordM; rw [← hk]; rfl
            have hdt : dataM Mg o = (Mg.drop o.F).take o.L := by unfold dataM; rw [← hk]; rfl
            have gq := fun o1 o2 w1 => guardNeWN o.L 0 o1 o2 w1
            have qq := fun w1 => neWN o.L 0 k.L (by unfold W256; omega) w1
            rw [wz0] at gq qq
            have Gq := Lib.hid gq
            have Hwd := Lib.hid hwd
            by_cases hL0 : o.L = 0
            · rw [decide_eq_true hL0] at qq
              have Qq := Lib.hid qq
              rw [hL0, List.take_zero] at hdt
              have Hdt := Lib.hid hdt
              obtain ⟨YL, hYL⟩ : ∃ Y, Y = wcs o.L := ⟨_, rfl⟩
              have hlL : YL.length = 4 := by rw [hYL]; rfl
              rw [← hYL] at Gq Qq hzK
              clear gq qq hdt hwd hspan hk hfr hF2 hYL hL0
              go_wp2_with (first
                | ((with_reducible show wpList _ _ _ (⟨some 122, _, _, _, _, _⟩ :: _) _ _); refine wpList_loadA (o := ⟨some 122, _, _, _, _, _⟩) (by rfl) 40 (.tmp 8) (by rfl) h8 (by rfl) aggWord hzK hlL ?_)
                | ((with_reducible show wpList _ _ _ (⟨some 124, _, _, _, _, _⟩ :: _) _ _); refine wpList_neqC (o := ⟨some 124, _, _, _, _, _⟩) (by rfl) 40 (.tmp 122) (.tmp 123) _ (by rfl) (by rfl) (by rfl) Gq.out Qq.out ?_))
              go_meet
              case rel => exact ⟨[], Hdt.out.symm, RowOf.nil _ _ _, b56, by rw [Hwd.out, manc_zero]; exact z6'⟩
            · rw [decide_eq_false hL0] at qq
              have Qq := Lib.hid qq
              have hFs := hF2.resolve_left hL0
              have cF : y6.cell? ⟨w.heap.size + 1, 5, none⟩ = some (.int .u64 (o.F : Int)) := by have := hO6.o.cell 5; rw [show (mopc o)[5]? = some (.int .u64 (lim o.F 0 : Int)) from rfl, lim_small (by omega)] at this; exact this
              have cL : y6.cell? ⟨h8, 0, none⟩ = some (.int .u64 (o.L : Int)) := by have := hzK.cell 0; rw [show (wcs o.L)[0]? = some (.int .u64 (lim o.L 0 : Int)) from rfl, lim_small (by omega)] at this; exact this
              have rc := kread_any w.heap.size b nn sz o.F o.L M (by omega) (by omega) y6 hK6
              have hrp : rdM M o.F o.L = (Mg.drop o.F).take o.L := by rw [← rdM_part Mg o.F o.L (by rw [Hml.out]; exact hFs), HMg.out]; unfold rdM; simp only [getD_grow]
              rw [hrp] at rc
              have Rc := Lib.hid rc
              have Hdt := Lib.hid hdt
              obtain ⟨YL, hYL⟩ : ∃ Y, Y = wcs o.L := ⟨_, rfl⟩
              have hlL : YL.length = 4 := by rw [hYL]; rfl
              rw [← hYL] at Gq Qq hzK
              clear gq qq hdt hwd hspan hk hfr hF2 hYL hrp rc
              go_wp2_with (first
                | ((with_reducible show wpList _ _ _ (⟨some 122, _, _, _, _, _⟩ :: _) _ _); refine wpList_loadA (o := ⟨some 122, _, _, _, _, _⟩) (by rfl) 40 (.tmp 8) (by rfl) h8 (by rfl) aggWord hzK hlL ?_)
                | ((with_reducible show wpList _ _ _ (⟨some 124, _, _, _, _, _⟩ :: _) _ _); refine wpList_neqC (o := ⟨some 124, _, _, _, _, _⟩) (by rfl) 40 (.tmp 122) (.tmp 123) _ (by rfl) (by rfl) (by rfl) Gq.out Qq.out ?_)
                | (go_at_call 58; refine Rc.out.mono ?_; rintro e y7 ⟨v7, rfl, o7, b7⟩; have z7 := z6'.kept b7; have b67 := Below.then b56 b7))
              go_meet
              case rel => exact ⟨_, Hdt.out.symm, o7.row, b67, by rw [Hwd.out, manc_zero]; exact z7⟩
          obtain rfl : kk = 5 := by
            have := HNN.out
            unfold spanN at this
            rw [← HKK.out, if_neg (by omega), if_neg h3, if_neg h4] at this
            split at this
            · assumption
            · cases this
          have hk := HKK.out
          have hwd : wordM Mg o = 0 := by unfold wordM; rw [← hk]; rfl
          have hdt : dataM Mg o = o.D := by unfold dataM; rw [← hk]; rfl
          have hI6 : Bytes y6 o.dv o.D := RowOf.below hI hO6.bel
          have c17 : y6.cell? ⟨w.heap.size + 1, 17, none⟩ = some o.dv := hO6.o.cell 17
          obtain ⟨da, dc, hdv, _⟩ := RowOf.form (f := b8) (size := 1) hI6
          rw [hdv] at c17 hI6
          have Hwd := Lib.hid hwd
          have Hdt := Lib.hid hdt
          clear hwd hdt hspan hk hdv
          go_wp2_with fail
          go_meet
          case rel => exact ⟨o.D, Hdt.out.symm, hI6, b56, by rw [Hwd.out, manc_zero]; exact z6'⟩
      · intro x c w1 cnt1 hwx hwc hlx hat hrg1 hlt hg1 hs1 hen
        have hout1 := hout.kept hg1 (by simp)
        have zk1 := zk.grown hg1 (by intro e; injection e; omega)
        have c13' : w1.cell? ⟨bo + 1, 0, none⟩ = some (.map (some bo)) := zk1.cell 0
        clear c13
        go_wp2_with (at_mapUpdate; refine wpList_mapUpdate_own _ rfl _ _ _ 120 rfl 36 5 lawU64 Try.underlying120 _ bo m _ rfl hout1 (by unfold maxLen; omega) _ _ _ rfl rfl (Maps.keyOf_int_mk Try.underlying36 hwx) _ [] (plainElem_int Try.underlying5 hwc) ?_; intro w2 hout2 hg2; go_frame)
        have hrg2 := hrg1.kept hg2 (fun e => by have := Option.some.inj e; omega) (fun e => by have := Option.some.inj e; omega)
        go_roundw
        case rel =>
          exact ⟨_, cnt1, m + 1, _, hrg2, by omega, hout2, Maps.agree_step hA hout.isMap trivial hat,
            (hnx.grown hg1 hnx.size (fun j hj => by cases hj; rw [← Hbo.out]; omega)).grown hg2 (by have := hnx.size; omega) (fun j hj => by cases hj; rw [← Hbo.out]; omega), zk1.grown hg2 (by intro e; injection e; omega)⟩
        case measure => rw [hrg2.left_eq, hrg.left_eq]; exact hlt
  case first =>
    by_cases h1 : kk = 1
    · subst h1
      go_wp2_with fail
      go_meet
      case rel =>
        have hk := HKK.out
        exact ⟨32, g6, g7, g7 + 1, by unfold spanN; rw [← hk]; rfl, rfl, rfl, rfl, by unfold fA fromN; rw [← hk]; exact hO4⟩
    by_cases h2 : kk = 2
    · subst h2
      go_wp2_with fail
      go_meet
      case rel =>
        have hk := HKK.out
        exact ⟨32, g6, g7, g7 + 1, by unfold spanN; rw [← hk]; rfl, rfl, rfl, rfl, by unfold fA fromN; rw [← hk]; exact hO4⟩
    by_cases h3 : kk = 3
    · subst h3
      obtain ⟨KN, hKN⟩ : ∃ K, K = wcs 1 := ⟨_, rfl⟩
      have cb : ∀ u : World, Calls Try.prog 109 #[.int .u64 1] u (fun e w' => e = .returned (.agg KN.toArray) ∧ Below u.heap.size u w') := fun u => by rw [hKN]; exact wint_any 1 (by omega) u
      have hKl : KN.length = 4 := by rw [hKN]; rfl
      have hKo : ∀ u ∈ KN, u.oneCell' = true := by rw [hKN]; exact wcs_one 1
      have Cb := Lib.hid cb
      have HKN := Lib.hid hKN
      clear cb hKN
      go_wp2_with (first
        | (go_at_call 109; refine (Cb.out _).mono ?_; rintro e y5 ⟨rfl, b5⟩; have hO5 := hO4.kept b5)
        | ((with_reducible show wpList _ _ _ (⟨none, Op.store _ _ (Operand.tmp 33), _, _, _, _⟩ :: _) _ _); refine wpList_storeA (o := ⟨none, _, _, _, _, _⟩) (by rfl) 40 (.tmp 6) (.tmp 33) (by rfl) g6 KN (by rfl) (by rfl) aggWord hO5.n hKl (wcs_len _) hKo (Below.refl g6 y5) (Nat.le_refl _) ?_; intro y6 z6' b6 gr6))
      go_meet
      case rel =>
        have hk := HKK.out
        refine ⟨1, g6, g7, g7 + 1, by unfold spanN; rw [← hk]; rfl, rfl, rfl, rfl, ?_⟩
        have hO6 := hO5.setN z6' gr6 hgg6 (by omega) (by omega) HKN.out
        unfold fA fromN
        rw [← hk]; exact hO6
    by_cases h4 : kk = 4
    · subst h4
      obtain ⟨KF, hKF⟩ : ∃ K, K = wcs o.F := ⟨_, rfl⟩
      obtain ⟨KL, hKL⟩ : ∃ K, K = wcs o.L := ⟨_, rfl⟩
      have hFl : KF.length = 4 := by rw [hKF]; rfl
      have hLl : KL.length = 4 := by rw [hKL]; rfl
      have hFo : ∀ u ∈ KF, u.oneCell' = true := by rw [hKF]; exact wcs_one _
      have hLo : ∀ u ∈ KL, u.oneCell' = true := by rw [hKL]; exact wcs_one _
      go_upto_region 10 with fail
      refine wp_region_h ((fun u => Blk 118 u (w.heap.size + 1) (mopc o))) (by kernel_rfl) ?_; intro y5 hy5; simp only [List.length_cons, List.length_nil, Nat.reduceAdd, List.replicate_succ, List.replicate_zero]
      have hO5 : OnW w o b sz 32 o.A 0 g6 g7 (g7 + 1) y5 := by rw [hy5]; exact hO4.kept (Below.refl _ _).drew
      have hT5 : (fun u => Blk 118 u (w.heap.size + 1) (mopc o)) y5 := hO5.o
      have rL : ∀ u, Blk 118 u (w.heap.size + 1) (mopc o) → u.rangeAt (w.heap.size + 1) 9 KL := fun u hu => by rw [hKL]; have := hu.range 9 4; exact this
      have rF : ∀ u, Blk 118 u (w.heap.size + 1) (mopc o) → u.rangeAt (w.heap.size + 1) 5 KF := fun u hu => by rw [hKF]; have := hu.range 5 4; exact this
      have RL := Lib.hid rL
      have RF := Lib.hid rF
      have HKL := Lib.hid hKL
      have HKF := Lib.hid hKF
      clear hy5 hO4 c0 c1 c2 c3 c4 rL rF hKL hKF
      (refine wpH_take 0 (by rfl) (by kernel_rfl) (by intro _ _ _ h; first | exact h | (cases h.1)) (by intro _ _ _ _ h; first | exact h | (cases h.1)) (by assumption) (fun K hK => ?_); simp only [List.setIfInBounds_toArray, List.set_cons_zero, List.set_cons_succ] at hK; go_simp; first | (refine hK _ ?_; clear hK K) | (apply Exists.intro; refine ⟨fun _ => rfl, hK _ ?_⟩; clear hK K)); (refine wpH_take 2 (by rfl) (by kernel_rfl) (by intro _ _ _ h; first | exact h | (cases h.1)) (by intro _ _ _ _ h; first | exact h | (cases h.1)) (by assumption) (fun K hK => ?_); simp only [List.setIfInBounds_toArray, List.set_cons_zero, List.set_cons_succ] at hK; go_simp; first | (refine hK _ ?_; clear hK K) | (apply Exists.intro; refine ⟨fun _ => rfl, hK _ ?_⟩; clear hK K)); (refine wpH_take 4 (by rfl) (by kernel_rfl) (by intro _ _ _ h; first | exact h | (cases h.1)) (by intro _ _ _ _ h; first | exact h | (cases h.1)) (by assumption) (fun K hK => ?_); simp only [List.setIfInBounds_toArray, List.set_cons_zero, List.set_cons_succ] at hK; go_simp; first | (refine hK _ ?_; clear hK K) | (apply Exists.intro; refine ⟨fun _ => rfl, hK _ ?_⟩; clear hK K))
      (refine wpH_take 1 (by rfl) (by kernel_rfl) (by intro _ _ _ h; first | exact h | (cases h.1)) (by intro _ _ _ _ h; first | exact h | (cases h.1)) (by assumption) (fun K hK => ?_); simp only [List.setIfInBounds_toArray, List.set_cons_zero, List.set_cons_succ] at hK; refine take_loadm (by rfl) 40 (.tmp 36) (by rfl) (w.heap.size + 1) 9 (by rfl) aggWord hLl (fun u hu => RL.out u hu) (hK _ ?_); clear hK K; simp only [Act.put, List.getElem_toArray, List.getElem_cons_zero, List.getElem_cons_succ, List.setIfInBounds_toArray, List.set_cons_zero, List.set_cons_succ])
      (refine wpH_take 3 (by rfl) (by kernel_rfl) (by intro _ _ _ h; first | exact h | (cases h.1)) (by intro _ _ _ _ h; first | exact h | (cases h.1)) (by assumption) (fun K hK => ?_); simp only [List.setIfInBounds_toArray, List.set_cons_zero, List.set_cons_succ] at hK; refine take_loadm (by rfl) 40 (.tmp 38) (by rfl) (w.heap.size + 1) 5 (by rfl) aggWord hFl (fun u hu => RF.out u hu) (hK _ ?_); clear hK K; simp only [Act.put, List.getElem_toArray, List.getElem_cons_zero, List.getElem_cons_succ, List.setIfInBounds_toArray, List.set_cons_zero, List.set_cons_succ])
      (refine wpH_take 5 (by rfl) (by kernel_rfl) (by intro _ _ _ h; first | exact h | (cases h.1)) (by intro _ _ _ _ h; first | exact h | (cases h.1)) (by assumption) (fun K hK => ?_); simp only [List.setIfInBounds_toArray, List.set_cons_zero, List.set_cons_succ] at hK; refine take_loadm (by rfl) 40 (.tmp 40) (by rfl) (w.heap.size + 1) 9 (by rfl) aggWord hLl (fun u hu => RL.out u hu) (hK _ ?_); clear hK K; simp only [Act.put, List.getElem_toArray, List.getElem_cons_zero, List.getElem_cons_succ, List.setIfInBounds_toArray, List.set_cons_zero, List.set_cons_succ])
      (refine wpH_only 6 (by rfl) (by kernel_rfl) (fun K hK => ?_); simp only [List.setIfInBounds_toArray, List.set_cons_zero, List.set_cons_succ] at hK; refine step_storeA (by rfl) 40 (.tmp 6) (.tmp 37) (by rfl) (g6) KL (by rfl) (by rfl) aggWord hO5.n hLl (wcs_len _) hLo ?_; intro y6 z6' b6 gr6; simp only [Act.put, List.getElem_toArray, List.getElem_cons_zero, List.getElem_cons_succ, List.setIfInBounds_toArray, List.set_cons_zero, List.set_cons_succ])
      have hO6 := hO5.setN z6' gr6 hgg6 (by omega) (by omega) HKL.out
      refine hK _ _ hO6.o ?_; clear hK K
      (refine wpH_only 7 (by rfl) (by kernel_rfl) (fun K hK => ?_); simp only [List.setIfInBounds_toArray, List.set_cons_zero, List.set_cons_succ] at hK; refine step_storeA (by rfl) 40 (.tmp 7) (.tmp 39) (by rfl) (g7) KF (by rfl) (by rfl) aggWord hO6.f hFl (wcs_len _) hFo ?_; intro y7 z7 b7 gr7; simp only [Act.put, List.getElem_toArray, List.getElem_cons_zero, List.getElem_cons_succ, List.setIfInBounds_toArray, List.set_cons_zero, List.set_cons_succ])
      have hO7 := hO6.setF z7 gr7 hgg7 (by omega) (by omega) HKF.out
      refine hK _ _ hO7.o ?_; clear hK K
      (refine wpH_only 8 (by rfl) (by kernel_rfl) (fun K hK => ?_); simp only [List.setIfInBounds_toArray, List.set_cons_zero, List.set_cons_succ] at hK; refine step_storeA (by rfl) 40 (.tmp 8) (.tmp 41) (by rfl) (g7 + 1) KL (by rfl) (by rfl) aggWord hO7.k hLl (wcs_len _) hLo ?_; intro y8 z8 b8' gr8; simp only [Act.put, List.getElem_toArray, List.getElem_cons_zero, List.getElem_cons_succ, List.setIfInBounds_toArray, List.set_cons_zero, List.set_cons_succ])
      have hO8 := hO7.setK z8 gr8 (by omega) (by omega) (by omega) HKL.out
      refine hK _ _ hO8.o ?_; clear hK K
      refine wpH_done (by kernel_rfl) ?_
      go_wp2_with fail
      go_meet
      case rel =>
        have hk := HKK.out
        exact ⟨o.L, g6, g7, g7 + 1, by unfold spanN; rw [← hk]; rfl, rfl, rfl, rfl, by unfold fA fromN; rw [← hk]; exact hO8⟩
    by_cases h5 : kk = 5
    · subst h5
      obtain ⟨nd, hnd⟩ : ∃ n, n = o.D.length := ⟨_, rfl⟩
      obtain ⟨KN, hKN⟩ : ∃ K, K = wcs nd := ⟨_, rfl⟩
      have hndl : nd < 18446744073709551616 := by rw [hnd]; exact k.D
      have cb : ∀ u : World, Calls Try.prog 109 #[.int .u64 (nd : Int)] u (fun e w' => e = .returned (.agg KN.toArray) ∧ Below u.heap.size u w') := fun u => by rw [hKN]; exact wint_any nd hndl u
      have hKl : KN.length = 4 := by rw [hKN]; rfl
      have hKo : ∀ u ∈ KN, u.oneCell' = true := by rw [hKN]; exact wcs_one nd
      obtain ⟨da, dc, hdv, _⟩ := RowOf.form' (f := b8) (size := 1) hI nd hnd.symm
      have c17 : y4.cell? ⟨w.heap.size + 1, 17, none⟩ = some (.slice da nd dc) := by have := hO4.o.cell 17; rw [show (mopc o)[17]? = some o.dv from rfl, hdv] at this; exact this
      have hwr : IntKind.u64.wrap (nd : Int) = (nd : Int) := IntWalk.u64_in _ ⟨by omega, by omega⟩
      have Cb := Lib.hid cb
      have HKN := Lib.hid hKN
      have Hnd := Lib.hid hnd
      clear cb hKN hnd hdv
      go_wp2_with (first
        | (go_at_call 109; refine (Cb.out _).mono ?_; rintro e y5 ⟨rfl, b5⟩; have hO5 := hO4.kept b5)
        | ((with_reducible show wpList _ _ _ (⟨none, Op.store _ _ (Operand.tmp 48), _, _, _, _⟩ :: _) _ _); refine wpList_storeA (o := ⟨none, _, _, _, _, _⟩) (by rfl) 40 (.tmp 6) (.tmp 48) (by rfl) g6 KN (by rfl) (by rfl) aggWord hO5.n hKl (wcs_len _) hKo (Below.refl g6 y5) (Nat.le_refl _) ?_; intro y6 z6' b6 gr6))
      go_meet
      case rel =>
        have hk := HKK.out
        refine ⟨nd, g6, g7, g7 + 1, by unfold spanN; rw [← hk, Hnd.out]; rfl, rfl, rfl, rfl, ?_⟩
        have hO6 := hO5.setN z6' gr6 hgg6 (by omega) (by omega) HKN.out
        unfold fA fromN
        rw [← hk]; exact hO6
    have hbad : spanN o = none := by
      have hk := HKK.out
      unfold spanN
      rw [← hk, if_neg (by omega), if_neg h3, if_neg h4, if_neg h5]
    have hst := stepM_bad (M := M) hbad
    have Hst := Lib.hid hst
    clear hst hbad
    obtain ⟨MC, hMC⟩ : ∃ X, X = kmc b sz := ⟨_, rfl⟩
    have hMl : MC.length = 2 := by rw [hMC]; rfl
    have hMo : ∀ u ∈ MC, u.oneCell' = true := by rw [hMC]; intro u hu; unfold kmc at hu; simp only [List.mem_cons, List.not_mem_nil, or_false] at hu; rcases hu with rfl | rfl <;> rfl
    have zm := hO4.m
    rw [← hMC] at zm
    have HMC := Lib.hid hMC
    clear hMC
    go_wp2_with (first
      | ((with_reducible show wpList _ _ _ (⟨some 26, _, _, _, _, _⟩ :: _) _ _); refine wpList_loadA (o := ⟨some 26, _, _, _, _, _⟩) (by rfl) 122 (.tmp 2) (by rfl) w.heap.size (by rfl) aggKm zm hMl ?_)
      | ((with_reducible show wpList _ _ _ (⟨none, Op.store _ _ (Operand.tmp 26), _, _, _, _⟩ :: _) _ _); refine wpList_storeA (o := ⟨none, _, _, _, _, _⟩) (by rfl) 122 (.tmp 4) (.tmp 26) (by rfl) (w.heap.size + 2) MC (by rfl) (by rfl) aggKm hO4.r hMl rfl hMo hO4.bel (by omega) ?_; intro y5 z5 b5 gr5; have a5 := hO4.a.grown gr5 (by intro e; injection e; omega))
      | ((with_reducible show wpList _ _ _ (⟨none, Op.store _ _ (Operand.tmp 27), _, _, _, _⟩ :: _) _ _); refine wpList_storeA (o := ⟨none, _, _, _, _, _⟩) (by rfl) 42 (.tmp 5) (.tmp 27) (by rfl) (w.heap.size + 3) (manc ⟨30, 0, 0⟩) (by rfl) (by rfl) aggAns a5 rfl rfl (manc_one _) b5 (by omega) ?_; intro y6 z6' b6 gr6; have r6 := z5.grown gr6 (by intro e; injection e; omega)))
    refine bodyPost_ret (results_blk2 rfl _ _ aggKm aggAns r6 z6' hMl rfl rfl rfl) rfl ?_
    unfold OnePost
    rw [Hst.out]
    refine ⟨b, nn, by rw [HMC.out, Hsz.out], ?_, by omega, b6⟩
    exact hK.kept b6
end Go.Proofs.Ytakhaanenlblmaa
