/- The reference's XParseNumber. -/
import Derived.Test.YtgmdbleeagfhpaaHexN4
import Derived.Test.YtgmdbleeagfhpaaHexN5
import Derived.Test.YtgmdbleeagfhpaaHex6
set_option linter.unusedSimpArgs false
set_option linter.unusedVariables false
namespace Go.Proofs.Ytgmdbleeagfhpaa
open Go.RowKit
theorem wread32 (a : Option Addr) (c : Nat) (b : List UInt8) (V : Nat) (hl : b.length = 32) (hV : numL b = V) (w : World) (h : Bytes w (.slice a 32 c) b) : Calls Try.prog 106 #[.slice a 32 c] w fun e w' => e = .returned (.agg (wcs V).toArray) ∧ Below w.heap.size w w' := by
  have h2 : Bytes w (.slice a b.length c) b := by rw [hl]; exact h
  have := wread_any a c b w h2
  rw [hl, last_small b (by omega), hV] at this
  exact this
theorem ba_take (s : ByteArray) (k : Nat) : (s.extract 0 k).data.toList = s.data.toList.take k := by
  rw [← ByteArray.toList_eq]
  simp [ByteArray.toList_eq]
set_option maxHeartbeats 1000000 in
set_option maxRecDepth 100000 in
theorem xparseNumber_any (L : List UInt8) (hs : L.length ≤ 140737488351232) (w : World) :
    Calls Try.prog 50 #[.string ⟨L.toArray⟩] w fun e w' => e = .returned (.tuple #[wv (nV L), .int .i64 (nE L)]) ∧ Below w.heap.size w w' := by
  obtain ⟨s, hsL⟩ : ∃ s : ByteArray, s = ⟨L.toArray⟩ := ⟨_, rfl⟩
  rw [← hsL]
  have hLs : s.data.toList = L := by rw [hsL]
  have hsz : s.size = L.length := by
    show s.data.size = _
    rw [← Array.length_toList, hLs]
  obtain ⟨w1, hw1⟩ : ∃ w1, w1 = w.alloc (.cells z4.toArray 24) := ⟨_, rfl⟩
  have hz1 : Blk 24 w1 w.heap.size z4 := by rw [hw1]; exact Blk.new w 24 z4
  have hbel1 : Below w.heap.size w w1 := by rw [hw1]; exact (Below.refl _ _).alloc (Nat.le_refl _) _
  have Hw1 := Lib.hid hw1
  obtain ⟨n, hn⟩ : ∃ n, n = L.length := ⟨_, rfl⟩
  have hni : (s.size : Int) = (n : Int) := by omega
  by_cases h3 : n < 3
  · obtain ⟨e1, e2⟩ := n_no (form_no L (.inl (by omega)))
    rw [e1, e2]
    have hd : (s.size : Int) < 3 := by omega
    clear hw1 e1 e2 hsL hLs hsz hni hn
    go_enter Try.func50, Try.ntmps50
    go_wp2_with (first
      | (rw [show w.alloc (.cells #[.int .u64 0, .int .u64 0, .int .u64 0, .int .u64 0] 24) = w1 from by rw [Hw1.out]; rfl])
      | (refine wpList_storeA (by rfl) 24 (.tmp 2) (.tmp 15) (by rfl) (w.heap.size) (wcs (0)) (by rfl) (by rfl) aggWord hz1 (wcs_len _) (by first | exact wcs_len _ | rfl) (wcs_one _) (Below.refl _ _) (Nat.le_refl _) ?_; intro w7 hb7 b7 g7; have hbel7 := hbel1.trans b7))
    exact bodyPost_ret (results_blk_tmp rfl _ _ w.heap.size aggWord hb7 (wcs_len _) rfl rfl) rfl ⟨rfl, hbel7⟩
  · have hd3 : decide ((s.size : Int) < 3) = false := by rw [decide_eq_false_iff_not]; omega
    have hd3' : (3 : Int) ≤ (s.size : Int) := by omega
    by_cases h66 : 66 < n
    · obtain ⟨e1, e2⟩ := n_no (form_no L (.inr (.inl (by omega))))
      rw [e1, e2]
      have hd : (66 : Int) < (s.size : Int) := by omega
      clear hw1 e1 e2 hsL hLs hsz hni hn
      go_enter Try.func50, Try.ntmps50
      go_wp2_with (first
        | (rw [show w.alloc (.cells #[.int .u64 0, .int .u64 0, .int .u64 0, .int .u64 0] 24) = w1 from by rw [Hw1.out]; rfl])
        | (refine wpList_storeA (by rfl) 24 (.tmp 2) (.tmp 15) (by rfl) (w.heap.size) (wcs (0)) (by rfl) (by rfl) aggWord hz1 (wcs_len _) (by first | exact wcs_len _ | rfl) (wcs_one _) (Below.refl _ _) (Nat.le_refl _) ?_; intro w7 hb7 b7 g7; have hbel7 := hbel1.trans b7))
      exact bodyPost_ret (results_blk_tmp rfl _ _ w.heap.size aggWord hb7 (wcs_len _) rfl rfl) rfl ⟨rfl, hbel7⟩
    · have hd66 : decide ((66 : Int) < (s.size : Int)) = false := by rw [decide_eq_false_iff_not]; omega
      have hd66' : (s.size : Int) ≤ 66 := by omega
      obtain ⟨q, hq⟩ : ∃ q, q = 66 - n := ⟨_, rfl⟩
      have eq66 : (66 : Int) - (s.size : Int) = (q : Int) := by omega
      have hwq : IntKind.i64.wrap (q : Int) = (q : Int) := IntWalk.i64_in _ (by omega)
      obtain ⟨za, hza⟩ : ∃ za, za = (⟨(48 :: 48 :: 48 :: 48 :: 48 :: 48 :: 48 :: 48 :: 48 :: 48 :: 48 :: 48 :: 48 :: 48 :: 48 :: 48 :: 48 :: 48 :: 48 :: 48 :: 48 :: 48 :: 48 :: 48 :: 48 :: 48 :: 48 :: 48 :: 48 :: 48 :: 48 :: 48 :: 48 :: 48 :: 48 :: 48 :: 48 :: 48 :: 48 :: 48 :: 48 :: 48 :: 48 :: 48 :: 48 :: 48 :: 48 :: 48 :: 48 :: 48 :: 48 :: 48 :: 48 :: 48 :: 48 :: 48 :: 48 :: 48 :: 48 :: 48 :: 48 :: 48 :: 48 :: 48 :: []).toArray⟩ : ByteArray).extract 0 q := ⟨_, rfl⟩
      obtain ⟨sb, hsb⟩ : ∃ sb, sb = s.extract 2 s.size := ⟨_, rfl⟩
      have hzr : ∀ (k : IntKind) (w' : World), (Instr.slice 9 (.string (⟨(48 :: 48 :: 48 :: 48 :: 48 :: 48 :: 48 :: 48 :: 48 :: 48 :: 48 :: 48 :: 48 :: 48 :: 48 :: 48 :: 48 :: 48 :: 48 :: 48 :: 48 :: 48 :: 48 :: 48 :: 48 :: 48 :: 48 :: 48 :: 48 :: 48 :: 48 :: 48 :: 48 :: 48 :: 48 :: 48 :: 48 :: 48 :: 48 :: 48 :: 48 :: 48 :: 48 :: 48 :: 48 :: 48 :: 48 :: 48 :: 48 :: 48 :: 48 :: 48 :: 48 :: 48 :: 48 :: 48 :: 48 :: 48 :: 48 :: 48 :: 48 :: 48 :: 48 :: 48 :: []).toArray⟩ : ByteArray)) none (some (.int k (q : Int))) none).run Try.prog w' = .ok (.string za) w' := by
        intro k w'
        have := run_slice_string_h (P := Try.prog) w' 9 (⟨(48 :: 48 :: 48 :: 48 :: 48 :: 48 :: 48 :: 48 :: 48 :: 48 :: 48 :: 48 :: 48 :: 48 :: 48 :: 48 :: 48 :: 48 :: 48 :: 48 :: 48 :: 48 :: 48 :: 48 :: 48 :: 48 :: 48 :: 48 :: 48 :: 48 :: 48 :: 48 :: 48 :: 48 :: 48 :: 48 :: 48 :: 48 :: 48 :: 48 :: 48 :: 48 :: 48 :: 48 :: 48 :: 48 :: 48 :: 48 :: 48 :: 48 :: 48 :: 48 :: 48 :: 48 :: 48 :: 48 :: 48 :: 48 :: 48 :: 48 :: 48 :: 48 :: 48 :: 48 :: []).toArray⟩ : ByteArray) (by kernel_rfl) k (q : Int) (by omega) (by show (q : Int) ≤ 64; omega)
        rw [this, hza]; rfl
      have hsr : ∀ (k : IntKind) (w' : World), (Instr.slice 9 (.string s) (some (.int k 2)) none none).run Try.prog w' = .ok (.string sb) w' := by
        intro k w'
        have := run_slice_string_l (P := Try.prog) w' 9 s (by kernel_rfl) k 2 (by omega) (by omega)
        rw [this, hsb]; rfl
      have hzl : za.data.toList = List.replicate q 48 := by
        rw [hza, ba_take]
        show (List.replicate 64 (48 : UInt8)).take q = _
        rw [List.take_replicate]; congr 1; omega
      have hsl : sb.data.toList = L.drop 2 := by rw [hsb, ba_drop, hLs]
      have hzs : za.size ≤ 64 := by
        show za.data.size ≤ 64
        rw [← Array.length_toList, hzl]; simp; omega
      have hss : sb.size ≤ 64 := by
        show sb.data.size ≤ 64
        rw [← Array.length_toList, hsl]; simp; omega
      have hc1 : ¬ (9223372036854775807 < 2 + za.size) := by omega
      have hc2 : ¬ (9223372036854775807 < 2 + za.size + sb.size) := by omega
      obtain ⟨tt, htt⟩ : ∃ tt : ByteArray, tt = ⟨#[48, 120]⟩ ++ za ++ sb := ⟨_, rfl⟩
      have htl : tt.data.toList = padS L := by
        rw [htt, ba_add, ba_add, hzl, hsl, hq, hn]; rfl
      have hts : tt.size ≤ 140737488351232 := by
        show tt.data.size ≤ _
        rw [← Array.length_toList, htl, padS_len L (by omega) (by omega)]; omega
      have cp := fun w => xparse_any tt hts w
      rw [htl] at cp
      have Htt := Lib.hid htt
      obtain ⟨V, hV⟩ : ∃ V, V = valD ((L.drop 2).map dg) := ⟨_, rfl⟩
      obtain ⟨b, hb⟩ : ∃ b, b = parseR (padS L) := ⟨_, rfl⟩
      cases hok : okH (padS L) with
      | false =>
        obtain ⟨e1, e2⟩ := n_no (form_no L (.inr (.inr hok)))
        rw [e1, e2]
        have cq : ∀ w, Calls Try.prog 105 #[.string (⟨#[48, 120]⟩ ++ za ++ sb)] w fun e w' => ∃ v, e = .returned (.tuple #[v, .int .i64 1]) ∧ Below w.heap.size w w' := by
          intro w
          rw [← htt]
          refine (cp w).mono ?_
          rintro e w' ⟨v, rfl, _, hb'⟩
          exact ⟨v, by rw [(parse_no (pad_no L hok)).2], hb'⟩
        have Cq := Lib.hid cq
        clear cq cp hV hb hok e1 e2 hw1 htt htl hts hzl hsl hza hsb hsz hLs hsL hni hn hq
        go_enter Try.func50, Try.ntmps50
        go_wp2
        rw [show w.alloc (.cells #[.int .u64 0, .int .u64 0, .int .u64 0, .int .u64 0] 24) = w1 from by rw [Hw1.out]; rfl]
        refine wp_region_typed w1 9 (by kernel_rfl) (by kernel_rfl) (Below.refl _ _) ?_; simp only [List.take_succ_cons, List.take_zero, List.take_nil]
        iterate 9 (refine wpX_step (by rfl) (fun K hK => ?_); go_simp; first | (refine hK _ ?_; clear hK K) | (apply Exists.intro; refine ⟨fun _ => ?_, hK _ ?_⟩; fail; clear hK K))
        refine wpX_end rfl ?_
        rintro w2 hw2
        simp only [List.reverse_nil, forallRel]
        have hz2 := hz1.kept hw2
        have hbel2 := Below.then hbel1 hw2
        clear hzr hsr hw2
        go_wp2_with (first
          | (go_at_call 105; refine (Cq.out _).mono ?_; rintro e w3 ⟨v, rfl, b3⟩; have hz3 := hz2.kept b3; have hbel3 := Below.then hbel2 b3)
          | (refine wpList_storeA (by rfl) 24 (.tmp 2) (.tmp 38) (by rfl) (w.heap.size) (wcs (0)) (by rfl) (by rfl) aggWord hz3 (wcs_len _) (by first | exact wcs_len _ | rfl) (wcs_one _) (Below.refl _ _) (Nat.le_refl _) ?_; intro w7 hb7 b7 g7; have hbel7 := hbel3.trans b7))
        exact bodyPost_ret (results_blk_tmp rfl _ _ w.heap.size aggWord hb7 (wcs_len _) rfl rfl) rfl ⟨rfl, hbel7⟩
      | true =>
        obtain ⟨p1, p2, p3⟩ := pad_val L (by omega) (by omega) hok
        have hdig := (pad_ok L).1 hok
        have hform := form_iff L (by omega) (by omega) hdig
        rw [← hb] at p2 p3
        rw [← hV] at p3 hform
        have hVW : V < W256 := by
          rw [hV]
          refine valD_small _ (fun x hx => ?_) (by rw [List.length_map, List.length_drop]; omega)
          obtain ⟨y, hy, rfl⟩ := List.mem_map.1 hx
          exact hdig y hy
        have cq : ∀ w, Calls Try.prog 105 #[.string (⟨#[48, 120]⟩ ++ za ++ sb)] w fun e w' => ∃ a c, e = .returned (.tuple #[.slice a 32 c, .int .i64 0]) ∧ Bytes w' (.slice a 32 c) b ∧ Below w.heap.size w w' := by
          intro w
          rw [← htt]
          refine (cp w).mono ?_
          rintro e w' ⟨v, rfl, hv, hb'⟩
          rw [← hb] at hv
          obtain ⟨a, c, rfl, _⟩ := hv.form' 32 p2
          exact ⟨a, c, by rw [(parse_yes p1).2], hv.row, hb'⟩
        obtain ⟨sn, hsn⟩ : ∃ sn : ByteArray, sn = ⟨(numS V).toArray⟩ := ⟨_, rfl⟩
        have cx : ∀ w, Calls Try.prog 52 #[.agg (wcs V).toArray] w fun e w' => e = .returned (.string sn) ∧ Below w.heap.size w w' := fun w => by rw [hsn]; exact xnumber_any V hVW w
        have Cq := Lib.hid cq
        have P2 := Lib.hid p2
        have P3 := Lib.hid p3
        cases hno : nOk L with
        | true =>
          obtain ⟨e1, e2⟩ := n_yes hno
          have hR : halfR L = (L.drop 2).map dg := by
            unfold nOk at hno
            rw [Bool.and_eq_true] at hno
            exact halfR_yes hno.1
          rw [e1, e2, hR, ← hV]
          rw [hno, beq_iff_eq] at hform
          have hss2 : sn = s := by rw [hsn, hform, hsL]
          rw [hss2] at cx
          have Cx := Lib.hid cx
          clear cq cp cx hV hb hok e1 e2 hw1 htt htl hts hzl hsl hza hsb hsz hLs hsL hni hn hq hR hform hno hsn hss2 p1 p2 p3 hdig hVW
          go_enter Try.func50, Try.ntmps50
          go_wp2
          rw [show w.alloc (.cells #[.int .u64 0, .int .u64 0, .int .u64 0, .int .u64 0] 24) = w1 from by rw [Hw1.out]; rfl]
          refine wp_region_typed w1 9 (by kernel_rfl) (by kernel_rfl) (Below.refl _ _) ?_; simp only [List.take_succ_cons, List.take_zero, List.take_nil]
          iterate 9 (refine wpX_step (by rfl) (fun K hK => ?_); go_simp; first | (refine hK _ ?_; clear hK K) | (apply Exists.intro; refine ⟨fun _ => ?_, hK _ ?_⟩; fail; clear hK K))
          refine wpX_end rfl ?_
          rintro w2 hw2
          simp only [List.reverse_nil, forallRel]
          have hz2 := hz1.kept hw2
          have hbel2 := Below.then hbel1 hw2
          clear hzr hsr hw2
          go_wp2_with (first
            | (go_at_call 105; refine (Cq.out _).mono ?_; rintro e w3 ⟨a, c, rfl, hr3, b3⟩; have hz3 := hz2.kept b3; have hbel3 := Below.then hbel2 b3)
            | (go_at_call 52; (with_reducible refine (Cx.out _).mono ?_); rintro e w5 ⟨rfl, b5⟩; have hz5 := hz4.kept b5; have hr5 := RowOf.kept hr4 b5; have hbel5 := Below.then hbel4 b5; clear hr3 hz3 hbel3 hr4 hz4 hbel4)
            | (go_at_call 106; refine (wread32 a c b V P2.out P3.out _ hr3).mono ?_; rintro e w4 ⟨rfl, b4⟩; have hz4 := hz3.kept b4; have hr4 := RowOf.kept hr3 b4; have hbel4 := Below.then hbel3 b4)
            | (go_at_call 106; refine (wread32 a c b V P2.out P3.out _ hr5).mono ?_; rintro e w6 ⟨rfl, b6⟩; have hz6 := hz5.kept b6; have hbel6 := Below.then hbel5 b6)
            | (refine wpList_storeA (by rfl) 24 (.tmp 2) (.tmp 40) (by rfl) (w.heap.size) (wcs (V)) (by rfl) (by rfl) aggWord hz6 (wcs_len _) (by first | exact wcs_len _ | rfl) (wcs_one _) (Below.refl _ _) (Nat.le_refl _) ?_; intro w7 hb7 b7 g7; have hbel7 := hbel6.trans b7))
          exact bodyPost_ret (results_blk_tmp rfl _ _ w.heap.size aggWord hb7 (wcs_len _) rfl rfl) rfl ⟨rfl, hbel7⟩
        | false =>
          obtain ⟨e1, e2⟩ := n_no hno
          rw [e1, e2]
          rw [hno, beq_eq_false_iff_ne] at hform
          have hne : ¬ sn = s := by
            intro e
            apply hform
            have := congrArg (fun x : ByteArray => x.data.toList) e
            simpa [hsn, hsL] using this
          have hnl : ¬ sn.toList = s.toList := by
            rw [ByteArray.toList_eq, ByteArray.toList_eq, hLs, hsn]
            exact hform
          have hnl1 : (sn.toList == s.toList) = false := by rw [beq_eq_false_iff_ne]; exact hnl
          have Cx := Lib.hid cx
          clear cq cp cx hV hb hok e1 e2 hw1 htt htl hts hzl hsl hza hsb hsz hLs hsL hni hn hq hform hno hsn p1 p2 p3 hdig hVW
          go_enter Try.func50, Try.ntmps50
          go_wp2
          rw [show w.alloc (.cells #[.int .u64 0, .int .u64 0, .int .u64 0, .int .u64 0] 24) = w1 from by rw [Hw1.out]; rfl]
          refine wp_region_typed w1 9 (by kernel_rfl) (by kernel_rfl) (Below.refl _ _) ?_; simp only [List.take_succ_cons, List.take_zero, List.take_nil]
          iterate 9 (refine wpX_step (by rfl) (fun K hK => ?_); go_simp; first | (refine hK _ ?_; clear hK K) | (apply Exists.intro; refine ⟨fun _ => ?_, hK _ ?_⟩; fail; clear hK K))
          refine wpX_end rfl ?_
          rintro w2 hw2
          simp only [List.reverse_nil, forallRel]
          have hz2 := hz1.kept hw2
          have hbel2 := Below.then hbel1 hw2
          clear hzr hsr hw2
          go_wp2_with (first
            | (go_at_call 105; refine (Cq.out _).mono ?_; rintro e w3 ⟨a, c, rfl, hr3, b3⟩; have hz3 := hz2.kept b3; have hbel3 := Below.then hbel2 b3)
            | (go_at_call 52; (with_reducible refine (Cx.out _).mono ?_); rintro e w5 ⟨rfl, b5⟩; have hz5 := hz4.kept b5; have hbel5 := Below.then hbel4 b5)
            | (go_at_call 106; refine (wread32 a c b V P2.out P3.out _ hr3).mono ?_; rintro e w4 ⟨rfl, b4⟩; have hz4 := hz3.kept b4; have hbel4 := Below.then hbel3 b4)
            | (refine wpList_storeA (by rfl) 24 (.tmp 2) (.tmp 38) (by rfl) (w.heap.size) (wcs (0)) (by rfl) (by rfl) aggWord hz5 (wcs_len _) (by first | exact wcs_len _ | rfl) (wcs_one _) (Below.refl _ _) (Nat.le_refl _) ?_; intro w7 hb7 b7 g7; have hbel7 := hbel5.trans b7))
          exact bodyPost_ret (results_blk_tmp rfl _ _ w.heap.size aggWord hb7 (wcs_len _) rfl rfl) rfl ⟨rfl, hbel7⟩
end Go.Proofs.Ytgmdbleeagfhpaa
