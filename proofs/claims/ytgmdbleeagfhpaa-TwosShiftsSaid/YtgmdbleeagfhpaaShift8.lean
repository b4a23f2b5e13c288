/- The reference's TSar. -/
import Derived.Test.YtgmdbleeagfhpaaShift6
set_option linter.unusedSimpArgs false
set_option linter.unusedVariables false
namespace Go.Proofs.Ytgmdbleeagfhpaa
open Go.RowKit
set_option maxHeartbeats 800000 in
set_option maxRecDepth 100000 in
theorem tsar_any (N A : Nat) (hN : N < W256) (hA : A < W256) (w : World) : Calls Try.prog 28 #[wv N, wv A] w fun e w' => e = .returned (wv (sarN A N)) ∧ Below w.heap.size w w' := by
  obtain ⟨hb0, hd0, hz0, hbel0⟩ := box3 w N A
  obtain ⟨w1, hw1⟩ : ∃ w1, w1 = ((w.alloc (.cells (wcs N).toArray 24)).alloc (.cells (wcs A).toArray 24)).alloc (.cells z4.toArray 24) := ⟨_, rfl⟩
  rw [← hw1] at hb0 hd0 hz0 hbel0
  show Calls Try.prog 28 #[.agg (wcs N).toArray, .agg (wcs A).toArray] w _
  obtain ⟨p, hp⟩ : ∃ p, p = min N 256 := ⟨_, rfl⟩
  have hp256 : p ≤ 256 := by omega
  obtain ⟨q, hq⟩ : ∃ q, q = 256 - p := ⟨_, rfl⟩
  have hR : sarN A p = sarN A N := by
    by_cases h : N ≤ 256
    · rw [hp, Nat.min_eq_left h]
    · unfold sarN
      rw [if_pos (show 256 ≤ p by omega), if_pos (show 256 ≤ N by omega), shr_far A N hA (by omega), shr_far A p hA (by omega)]
  have c1 : ∀ w, Calls Try.prog 78 #[.agg (wcs N).toArray] w fun e w' => e = .returned (.int .i64 ((p : Nat) : Int)) ∧ Below w.heap.size w w' := fun w => by rw [hp]; exact places_any N hN w
  have C1 := Lib.hid c1
  have HR := Lib.hid hR
  have Hq := Lib.hid hq
  have hqp : q + p = 256 := by omega
  have Hw1 := Lib.hid hw1
  obtain ⟨sg, hsg⟩ : ∃ sg, sg = A.testBit 255 := ⟨_, rfl⟩
  have hlast := bitsL_at A 255 (by omega)
  rw [← hsg] at hlast
  have Hlast := Lib.hid hlast
  have Hsg := Lib.hid hsg
  clear c1 hp hR hq hw1 hlast hsg
  go_enter Try.func28, Try.ntmps28
  go_wp2_with (first
    | (rw [show ((w.alloc (.cells (wcs N).toArray 24)).alloc (.cells (wcs A).toArray 24)).alloc (.cells #[.int .u64 0, .int .u64 0, .int .u64 0, .int .u64 0] 24) = w1 from by rw [Hw1.out]; rfl])
    | (refine wpList_loadA (o := ⟨some 7, _, _, _, _, _⟩) (by rfl) 24 (.tmp 3) (by rfl) (w.heap.size + 1) (by rfl) aggWord hd0 (wcs_len _) ?_)
    | (go_at_call 79; (with_reducible refine (bitsOf_l A _).mono ?_); rintro e w2 ⟨a2, c2, rfl, h2, b2⟩; have hb2 := (hb0.kept b2).alloc (.cells #[] 4); have hz2 := (hz0.kept b2).alloc (.cells #[] 4); have hbel2 := Below.then hbel0 b2; have o2 := OwnOf.empty bbool 1 4 w2 w2.heap.size (Nat.le_refl _); have ha2 := h2.alloc (.cells #[] 4))
    | (refine wpList_loadA (o := ⟨some 11, _, _, _, _, _⟩) (by rfl) 24 (.tmp 2) (by rfl) (w.heap.size) (by rfl) aggWord hb2 (wcs_len _) ?_)
    | (go_at_call 78; (with_reducible refine (C1.out _).mono ?_); rintro e w3 ⟨rfl, b3⟩; obtain ⟨a3, c3, hs3, h3⟩ := RowOf.from elBool (ha2.kept b3) p hp256 (p : Int) rfl; rw [← Hq.out] at hs3 h3; have o3 := o2.kept b3; have hz3 := hz2.kept b3; have s3 := b3.size; have bb3 := (((Below.refl w2.heap.size w2).alloc (Nat.le_refl _) (.cells #[] 4)).trans (b3.mono (by simp))))
    | (at_builtin; refine wpList_app (by rfl) (.tmp 9) (.tmp 13) 87 (by rfl) elBool (by rfl) o3 (by rfl) h3 bb3 (by simp at s3; omega) (by simp [bitsL_len]; omega) (by simp [bitsL_len, maxLen]; omega) ?_; intro v4 w4 hv4 hg4 _ hB4))
  obtain ⟨a4, c4, rfl, _⟩ := hv4.form' q (by rw [List.nil_append, List.length_drop, bitsL_len, Hq.out])
  have hbelA : Below w.heap.size w w4 := hbel2.trans (hg4.mono hbel2.size)
  have hzA : Blk 24 w4 (w.heap.size + 2) z4 := (hz0.kept b2).below hg4 ((hz0.kept b2).lt)
  have hsA : w2.heap.size ≤ w4.heap.size := hg4.size
  obtain ⟨blk, off, rfl, hc2⟩ := Bools.later h2 (Below.refl _ _) 255 (by rw [bitsL_len]; omega)
  have hls : (bitsL A)[255]'(by rw [bitsL_len]; omega) = sg := by
    have := Hlast.out
    rw [List.getElem?_eq_getElem (by rw [bitsL_len]; omega)] at this
    exact Option.some.inj this
  rw [hls] at hc2
  have hblk := World.block_lt_of_cell? w2 _ hc2
  have hcA : w4.cell? ⟨blk, off + 255, none⟩ = some (.bool sg) := by rw [hg4.cell hblk]; exact hc2
  clear hls hc2 hs3 h3 o3 hz3 bb3 s3 b3 ha2 o2 hbel2 hz2 hb2 hg4 hB4
  rw [List.nil_append] at hv4
  go_loopw [6] (fun v wr => ∃ n a c, q ≤ n ∧ n ≤ 256 ∧ v = .slice a n c ∧ OwnOf bbool 1 4 wr w2.heap.size (.slice a n c) ((bitsL A).drop p ++ List.replicate (n - q) sg) ∧ Below w.heap.size w wr ∧ Blk 24 wr (w.heap.size + 2) z4 ∧ wr.cell? ⟨blk, off + 255, none⟩ = some (.bool sg) ∧ w2.heap.size ≤ wr.heap.size) (fun v _ => 256 - lenV v)
  case atStart => exact ⟨q, _, _, Nat.le_refl _, by omega, rfl, by simpa using hv4, hbelA, hzA, hcA, hsA⟩
  case round =>
    obtain ⟨n, a5, c5, hqn, hn, rfl, hown, hbel, hz, hc, hsz⟩ := hrel
    clear hv4 hbelA hzA hcA hsA
    by_cases hlt : n < 256
    · have hd : decide ((n : Int) < 256) = true := by rw [decide_eq_true_eq]; omega
      have hlen : ((bitsL A).drop p ++ List.replicate (n - q) sg).length = n := by rw [List.length_append, List.length_drop, bitsL_len, List.length_replicate]; omega
      have hzl := hz.lt
      have hz2 := (hz0.kept b2).lt
      obtain ⟨L, hL⟩ : ∃ L, L = (bitsL A).drop p ++ List.replicate (n - q) sg := ⟨_, rfl⟩
      rw [← hL] at hown hlen
      have HL := Lib.hid hL
      have Hlen := Lib.hid hlen
      clear hL hlen
      go_wp2_with (at_builtin; (refine wpList_app (by rfl) (.tmp 18) (.tmp 22) 87 (by rfl) elBool (by rfl) (hown.alloc _) (by rfl) (RowOf.made bbool 1 _ [sg] _ _ 1 (by rfl) (by rfl) (by rfl) (by decide)) ((Below.refl w2.heap.size wr).alloc hsz _) (by simp; omega) (by have := Hlen.out; simp; omega) (by have := Hlen.out; simp [maxLen]; omega) ?_; intro v6 w6 hv6 hg6 _ hB6))
      obtain ⟨a6, c6, rfl, _⟩ := hv6.form' (n + 1) (by have := Hlen.out; simp; omega)
      have hz6 : Blk 24 w6 (w.heap.size + 2) z4 := hz.below hg6 hz2
      have hc6 : w6.cell? ⟨blk, off + 255, none⟩ = some (.bool sg) := by rw [hg6.cell hblk]; exact hc
      rw [HL.out, List.append_assoc, ← List.replicate_succ', show n - q + 1 = n + 1 - q from by omega] at hv6
      have hbw : w.heap.size ≤ w2.heap.size := by omega
      go_roundw
      case rel => exact ⟨n + 1, _, _, by omega, by omega, rfl, hv6, hbel.trans (hg6.mono hbw), hz6, hc6, hB6⟩
      case measure => simp [lenV]; omega
    · obtain rfl : n = 256 := by omega
      rw [show 256 - q = p from by omega] at hown
      have hR2 : ofT ((bitsL A).drop p ++ List.replicate p sg) = sarN A N := by rw [Hsg.out, ofT_sar A p p hA hp256 rfl, HR.out]
      have HR2 := Lib.hid hR2
      clear hR2
      go_wp2_with (first
        | (go_at_call 77; (with_reducible refine (ofBits_l a5 256 c5 _ _ (by rw [List.length_append, List.length_drop, bitsL_len, List.length_replicate]; omega) HR2.out _ hown.row).mono ?_); rintro e w6 ⟨rfl, b6⟩; have hz6 := hz.kept b6; have hbel6 := Below.then hbel b6)
        | (refine wpList_storeA (by rfl) 24 (.tmp 4) (.tmp 25) (by rfl) (w.heap.size + 2) (wcs (sarN A N)) (by rfl) (by rfl) aggWord hz6 (wcs_len _) (by first | exact wcs_len _ | rfl) (wcs_one _) (Below.refl _ _) (Nat.le_refl _) ?_; intro w7 hb7 b7 g7; have hbel7 := hbel6.trans (b7.mono (by omega))))
      exact bodyPost_ret (results_blk rfl _ _ (w.heap.size + 2) aggWord hb7 (wcs_len _) rfl) rfl ⟨rfl, hbel7⟩
end Go.Proofs.Ytgmdbleeagfhpaa
