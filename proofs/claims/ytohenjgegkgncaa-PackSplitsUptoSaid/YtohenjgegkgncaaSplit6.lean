/- (*reader).item: a text with a head. -/
import Derived.Test.YtohenjgegkgncaaSplit5
set_option linter.unusedSimpArgs false
set_option linter.unusedVariables false
namespace Go.Proofs.Ytohenjgegkgncaa
open Go.RowKit
set_option maxHeartbeats 2000000 in
set_option maxRecDepth 100000 in
theorem item_text (n : Nat) (a : Option Addr) (L c : Nat) (x : UInt8) (r : List UInt8) (hL : (x :: r).length = L) (hLs : L ≤ 1048576) (h128 : 128 ≤ x.toNat) (h192 : x.toNat < 192) (g : Nat) (w : World) (hB : Blk 113 w g [.slice a L c]) (h : Bytes w (.slice a L c) (x :: r)) :
    Calls Try.prog 72 #[.pointer (some ⟨g, 0, none⟩)] w (ItemPost (par (n + 1) (x :: r)) (.slice a L c) (x :: r) g w) := by
  have hglt := hB.lt
  have hLm : L ≤ maxLen := by unfold maxLen; omega
  have R0 := Rd.start hB hL hLm
  have h0 : ∀ u, w.grownBy u (some g) → Bytes u (.slice a L c) (x :: r) := fun u hu => Bytes.off_r h hB ⟨_, _, _, rfl⟩ hu
  have hz1 := Blk.new w 25 [.bool false, .slice none 0 0, .slice none 0 0]
  have R1 := R0.alloc (.cells #[.bool false, .slice none 0 0, .slice none 0 0] 25)
  have hsz1 : w.heap.size ≤ (w.alloc (.cells #[.bool false, .slice none 0 0, .slice none 0 0] 25)).heap.size := by simp
  obtain ⟨w1, hw1⟩ : ∃ w1, w1 = w.alloc (.cells #[.bool false, .slice none 0 0, .slice none 0 0] 25) := ⟨_, rfl⟩
  rw [← hw1] at R1 hsz1
  change Blk _ (w.alloc (.cells #[.bool false, .slice none 0 0, .slice none 0 0] 25)) _ _ at hz1
  rw [← hw1] at hz1
  have hlt1 := hz1.lt
  have Hw1 := Lib.hid hw1
  clear hw1
  have hp : par (n + 1) (x :: r) = match hdr x.toNat 128 r with
      | none => none
      | some (k, r') => if r'.length < k ∨ own1 k r' = true then none else some (.txt (r'.take k), r'.drop k) := by
    rw [par, if_neg (by omega), if_pos h192]
    cases hdr x.toNat 128 r <;> rfl
  rw [hp]
  have t1 : Calls Try.prog 123 #[.pointer (some ⟨g, 0, none⟩), .int .u64 1] w1 _ := take_ok a c L 1 (x :: r) hL hLm (by rw [← hL]; simp) g w1 R1.hB (R1.bytes h0)
  have hrl : r.length = L - 1 := by rw [← hL]; simp
  have hxi : ¬ (x.toNat : Int) < 128 := by omega
  have hxd : decide ((x.toNat : Int) < 128) = false := by rw [decide_eq_false_iff_not]; exact hxi
  have hxj : (x.toNat : Int) < 192 := by omega
  have hxe : decide ((x.toNat : Int) < 192) = true := by rw [decide_eq_true_eq]; exact hxj
  simp only [List.take_succ_cons, List.take_zero, List.drop_succ_cons, List.drop_zero] at t1
  have lc : ∀ (a2 : Option Addr) (c2 : Nat) (u : World), Blk 113 u g [.slice a2 (L - 1) c2] → Bytes u (.slice a2 (L - 1) c2) r → Calls Try.prog 124 #[.pointer (some ⟨g, 0, none⟩), .int .u8 (x.toNat : Int), .int .u8 128] u (HdrPost (hdr x.toNat 128 r) (.slice a2 (L - 1) c2) r g u) :=
    fun a2 c2 u h1 h2 => length_any x.toNat 128 (by omega) h128 (by omega) a2 c2 (L - 1) r hrl (by omega) g u h1 h2
  have T1 := Lib.hid t1
  have Hrl := Lib.hid hrl
  have H0 := Lib.hid h0
  have HL := Lib.hid hL
  clear t1 hp h0 hrl hL h128 h192 h
  cases hh : hdr x.toNat 128 r with
  | none =>
    simp only [hh, HdrPost_none] at lc
    have Lc := Lib.hid lc
    clear lc hh
    dsimp only
    go_enter Try.func72, Try.ntmps72
    go_wp2_with fail
    rw [← Hw1.out]
    go_wp2_with (first
      | (go_at_call 123; (with_reducible refine T1.out.mono ?_); rintro e w2 ⟨a1, c1, a2, c2, rfl, r1, r2, B2, g2⟩; have R2 : Rd w (.slice a L c) (x :: r) g w2 a2 (L - 1) c2 r := R1.next g2 B2 r2 Hrl.out (by omega); have hz2 := hz1.grown g2 (by simp; omega); obtain ⟨b, off, rfl, hc⟩ := Bytes.at (r1 w2 (H0.out w2 R2.hg)) 0 (by simp); simp only [List.getElem_cons_zero, Nat.add_zero] at hc)
      | (go_at_call 124; (with_reducible refine (Lc.out _ _ _ R2.hB (R2.bytes H0.out)).mono ?_); rintro e w3 ⟨rfl, g3⟩))
    exact ⟨rfl, rfl, grown_trans R2.hg g3⟩
  | some kr =>
    obtain ⟨k, r'⟩ := kr
    obtain ⟨j, hj, hjl⟩ := hdr_suf hh
    have hr'l : r'.length ≤ L - 1 := by rw [hj, List.length_drop, Hrl.out]; omega
    simp only [hh, HdrPost_some] at lc
    have Lc := Lib.hid lc
    clear lc hh hj hjl
    dsimp only
    obtain ⟨M, hM⟩ : ∃ M, M = r'.length := ⟨_, rfl⟩
    rw [← hM] at Lc hr'l
    have hMm : M ≤ maxLen := by omega
    simp only [← hM]
    have HM := Lib.hid hM.symm
    clear hM
    by_cases hk : M < k
    · rw [if_pos (.inl hk)]
      go_enter Try.func72, Try.ntmps72
      go_wp2_with fail
      rw [← Hw1.out]
      go_wp2_with (first
        | (go_at_call 123; (with_reducible refine T1.out.mono ?_); rintro e w2 ⟨a1, c1, a2, c2, rfl, r1, r2, B2, g2⟩; have R2 : Rd w (.slice a L c) (x :: r) g w2 a2 (L - 1) c2 r := R1.next g2 B2 r2 Hrl.out (by omega); have hz2 := hz1.grown g2 (by simp; omega); obtain ⟨b, off, rfl, hc⟩ := Bytes.at (r1 w2 (H0.out w2 R2.hg)) 0 (by simp); simp only [List.getElem_cons_zero, Nat.add_zero] at hc)
        | (go_at_call 124; (with_reducible refine (Lc.out _ _ _ R2.hB (R2.bytes H0.out)).mono ?_); rintro e w3 ⟨a3, c3, rfl, s3, B3, g3⟩; have R3 := R2.next g3 B3 s3 HM.out (by omega); have hz3 := hz2.grown g3 (by simp; omega))
        | (go_at_call 123; (with_reducible refine (take_bad a3 c3 M k hMm hk g w3 R3.hB).mono ?_); rintro e w4 ⟨rfl, rfl⟩))
      exact ⟨rfl, rfl, R3.hg⟩
    · by_cases ho : own1 k r' = true
      · rw [if_pos (.inr ho)]
        have ho' := ho
        unfold own1 at ho'
        simp only [Bool.and_eq_true, decide_eq_true_eq] at ho'
        obtain ⟨rfl, hy⟩ := ho'
        cases r' with
        | nil => have := HM.out; simp at this; omega
        | cons y r' =>
          have hyi : (y.toNat : Int) < 128 := by simp at hy; omega
          have hyd : decide ((y.toNat : Int) < 128) = true := by rw [decide_eq_true_eq]; exact hyi
          have tk : ∀ (a3 : Option Addr) (c3 : Nat) (u : World), Blk 113 u g [.slice a3 M c3] → Bytes u (.slice a3 M c3) (y :: r') → Calls Try.prog 123 #[.pointer (some ⟨g, 0, none⟩), .int .u64 1] u _ := fun a3 c3 u h1 h2 => take_ok a3 c3 M 1 (y :: r') HM.out hMm (by omega) g u h1 h2
          simp only [List.take_succ_cons, List.take_zero, List.drop_succ_cons, List.drop_zero] at tk
          have Tk := Lib.hid tk
          clear ho hy tk
          go_enter Try.func72, Try.ntmps72
          go_wp2_with fail
          rw [← Hw1.out]
          go_wp2_with (first
            | (go_at_call 123; (with_reducible refine T1.out.mono ?_); rintro e w2 ⟨a1, c1, a2, c2, rfl, r1, r2, B2, g2⟩; have R2 : Rd w (.slice a L c) (x :: r) g w2 a2 (L - 1) c2 r := R1.next g2 B2 r2 Hrl.out (by omega); have hz2 := hz1.grown g2 (by simp; omega); obtain ⟨b, off, rfl, hc⟩ := Bytes.at (r1 w2 (H0.out w2 R2.hg)) 0 (by simp); simp only [List.getElem_cons_zero, Nat.add_zero] at hc)
            | (go_at_call 124; (with_reducible refine (Lc.out _ _ _ R2.hB (R2.bytes H0.out)).mono ?_); rintro e w3 ⟨a3, c3, rfl, s3, B3, g3⟩; have R3 := R2.next g3 B3 s3 HM.out (by omega); have hz3 := hz2.grown g3 (by simp; omega))
            | (go_at_call 123; refine (Tk.out a3 c3 w3 R3.hB (R3.bytes H0.out)).mono ?_; rintro e w4 ⟨a4, c4, a5, c5, rfl, r4, r5, B4, g4⟩; have hb4 := r4 w4 (Bytes.off_r (R3.bytes H0.out) R3.hB ⟨_, _, _, rfl⟩ g4); obtain ⟨b4, off4, rfl, hc4⟩ := Bytes.at hb4 0 (by simp); simp only [List.getElem_cons_zero, Nat.add_zero] at hc4))
          exact ⟨rfl, rfl, grown_trans R3.hg g4⟩
      · rw [if_neg (by rintro (h | h); exact hk h; exact ho h)]
        have hkM : k ≤ M := by omega
        have htl : (r'.take k).length = k := by rw [List.length_take, HM.out]; omega
        have hdl : (r'.drop k).length = M - k := by rw [List.length_drop, HM.out]
        by_cases hk1 : k = 1
        · subst hk1
          cases r' with
          | nil => have := HM.out; simp at this; omega
          | cons y r' =>
            have hyn : ¬ y.toNat < 128 := fun hy => ho (by unfold own1; simp; omega)
            have hyi : ¬ (y.toNat : Int) < 128 := by omega
            have hyd : decide ((y.toNat : Int) < 128) = false := by rw [decide_eq_false_iff_not]; exact hyi
            have tk : ∀ (a3 : Option Addr) (c3 : Nat) (u : World), Blk 113 u g [.slice a3 M c3] → Bytes u (.slice a3 M c3) (y :: r') → Calls Try.prog 123 #[.pointer (some ⟨g, 0, none⟩), .int .u64 1] u _ := fun a3 c3 u h1 h2 => take_ok a3 c3 M 1 (y :: r') HM.out hMm (by omega) g u h1 h2
            simp only [List.take_succ_cons, List.take_zero, List.drop_succ_cons, List.drop_zero] at tk hdl ⊢
            have Tk := Lib.hid tk
            have Hdl := Lib.hid hdl
            clear ho tk hyn htl hdl hk
            go_enter Try.func72, Try.ntmps72
            go_wp2_with fail
            rw [← Hw1.out]
            go_wp2_with (first
              | (go_at_call 123; (with_reducible refine T1.out.mono ?_); rintro e w2 ⟨a1, c1, a2, c2, rfl, r1, r2, B2, g2⟩; have R2 : Rd w (.slice a L c) (x :: r) g w2 a2 (L - 1) c2 r := R1.next g2 B2 r2 Hrl.out (by omega); have hz2 := hz1.grown g2 (by simp; omega); obtain ⟨b, off, rfl, hc⟩ := Bytes.at (r1 w2 (H0.out w2 R2.hg)) 0 (by simp); simp only [List.getElem_cons_zero, Nat.add_zero] at hc)
              | (go_at_call 124; (with_reducible refine (Lc.out _ _ _ R2.hB (R2.bytes H0.out)).mono ?_); rintro e w3 ⟨a3, c3, rfl, s3, B3, g3⟩; have R3 := R2.next g3 B3 s3 HM.out (by omega); have hz3 := hz2.grown g3 (by simp; omega))
              | (go_at_call 123; refine (Tk.out a3 c3 w3 R3.hB (R3.bytes H0.out)).mono ?_; rintro e w4 ⟨a4, c4, a5, c5, rfl, r4, r5, B4, g4⟩; have R4 : Rd w (.slice a L c) (x :: r) g w4 a5 (M - 1) c5 r' := R3.next g4 B4 r5 Hdl.out (by omega); have hz4 := hz3.grown g4 (by simp; omega); have hb4 := r4 w4 (Bytes.off_r (R3.bytes H0.out) R3.hB ⟨_, _, _, rfl⟩ g4); have hs4 : w.heap.size < w4.heap.size := hz4.lt; obtain ⟨b4, off4, rfl, hc4⟩ := Bytes.at hb4 0 (by simp); simp only [List.getElem_cons_zero, Nat.add_zero] at hc4)
              | (refine wpList_appA (o := ⟨some 38, _, _, _, _, _⟩) (by rfl) (.tmp 36) (.tmp 37) 22 (by rfl) elU8 (by rfl) (OwnOf.empty b8 1 5 w4 (w.heap.size + 1) hs4) (by rfl) (hb4.alloc _) (by simp; omega) (by simp) (by unfold maxLen; simp) ?_; intro v6 w6 o6 g6 p6; have hz6 := (hz4.alloc (.cells #[] 5)).grown g6 (by simp [Value.ownBlock]; omega); obtain ⟨a6, c6, rfl, _⟩ := o6.form' 1 (by simp); have R6 := (R4.alloc (.cells #[] 5)).fresh g6 (by intro y hy; simp [Value.ownBlock] at hy; omega) hglt)
              | ((with_reducible show wpList _ _ _ (⟨none, Op.store _ _ _, _, _, _, _⟩ :: _) _ _); refine wpList_storeA (o := ⟨none, _, _, _, _, _⟩) (by rfl) 25 (.tmp 2) (.tmp 39) (by rfl) w.heap.size [.bool false, .slice a6 1 c6, .slice none 0 0] (by rfl) (by rfl) aggItem hz6 (by rfl) (by rfl) (by intro u hu; simp at hu; rcases hu with rfl | rfl | rfl <;> rfl) (Below.refl _ _) (Nat.le_refl _) ?_; intro w7 hh7 _ hg7))
            have R7 := R6.fresh hg7 (fun y hy => by cases hy; exact Nat.le_refl _) hglt
            have o7 := o6.grown hg7 (fun k hk e => by cases hk; have := o6.lt _ e; omega)
            refine bodyPost_ret (results_blk rfl _ _ w.heap.size aggItem hh7 rfl rfl) rfl ⟨.mk false (.slice a6 1 c6) [y] (.slice none 0 0) [], a5, c5, rfl, ?_, ?_, R7.hg, Fp.txt o7 (fun _ h => by omega), by rw [erI_mk]; rfl, .txt _ _ _⟩
            · rw [Hdl.out]; exact R7.hs
            · rw [Hdl.out]; exact R7.hB
        · have hki : ((k : Int) == 1) = false := by rw [beq_eq_false_iff_ne]; omega
          have tk : ∀ (a3 : Option Addr) (c3 : Nat) (u : World), Blk 113 u g [.slice a3 M c3] → Bytes u (.slice a3 M c3) r' → Calls Try.prog 123 #[.pointer (some ⟨g, 0, none⟩), .int .u64 (k : Int)] u _ := fun a3 c3 u h1 h2 => take_ok a3 c3 M k r' HM.out hMm hkM g u h1 h2
          obtain ⟨t, ht⟩ : ∃ t, t = r'.take k := ⟨_, rfl⟩
          obtain ⟨d, hd⟩ : ∃ d, d = r'.drop k := ⟨_, rfl⟩
          simp only [← ht, ← hd] at tk htl hdl ⊢
          have Tk := Lib.hid tk
          have Hdl := Lib.hid hdl
          have Htl := Lib.hid htl
          clear ho tk ht hd htl hdl hk hk1
          go_enter Try.func72, Try.ntmps72
          go_wp2_with fail
          rw [← Hw1.out]
          go_wp2_with (first
            | (go_at_call 123; (with_reducible refine T1.out.mono ?_); rintro e w2 ⟨a1, c1, a2, c2, rfl, r1, r2, B2, g2⟩; have R2 : Rd w (.slice a L c) (x :: r) g w2 a2 (L - 1) c2 r := R1.next g2 B2 r2 Hrl.out (by omega); have hz2 := hz1.grown g2 (by simp; omega); obtain ⟨b, off, rfl, hc⟩ := Bytes.at (r1 w2 (H0.out w2 R2.hg)) 0 (by simp); simp only [List.getElem_cons_zero, Nat.add_zero] at hc)
            | (go_at_call 124; (with_reducible refine (Lc.out _ _ _ R2.hB (R2.bytes H0.out)).mono ?_); rintro e w3 ⟨a3, c3, rfl, s3, B3, g3⟩; have R3 := R2.next g3 B3 s3 HM.out (by omega); have hz3 := hz2.grown g3 (by simp; omega))
            | (go_at_call 123; refine (Tk.out a3 c3 w3 R3.hB (R3.bytes H0.out)).mono ?_; rintro e w4 ⟨a4, c4, a5, c5, rfl, r4, r5, B4, g4⟩; have R4 : Rd w (.slice a L c) (x :: r) g w4 a5 (M - k) c5 d := R3.next g4 B4 r5 Hdl.out (by omega); have hz4 := hz3.grown g4 (by simp; omega); have hb4 := r4 w4 (Bytes.off_r (R3.bytes H0.out) R3.hB ⟨_, _, _, rfl⟩ g4); have hs4 : w.heap.size < w4.heap.size := hz4.lt)
            | (refine wpList_appA (o := ⟨some 38, _, _, _, _, _⟩) (by rfl) (.tmp 36) (.tmp 37) 22 (by rfl) elU8 (by rfl) (OwnOf.empty b8 1 5 w4 (w.heap.size + 1) hs4) (by rfl) (hb4.alloc _) (by simp; omega) (by rw [Htl.out]; simp; omega) (by unfold maxLen; rw [Htl.out]; simp; omega) ?_; intro v6 w6 o6 g6 p6; have hz6 := (hz4.alloc (.cells #[] 5)).grown g6 (by simp [Value.ownBlock]; omega); obtain ⟨a6, c6, rfl, _⟩ := o6.form' k (by rw [List.nil_append]; exact Htl.out); have R6 := (R4.alloc (.cells #[] 5)).fresh g6 (by intro y hy; simp [Value.ownBlock] at hy; omega) hglt)
            | ((with_reducible show wpList _ _ _ (⟨none, Op.store _ _ _, _, _, _, _⟩ :: _) _ _); refine wpList_storeA (o := ⟨none, _, _, _, _, _⟩) (by rfl) 25 (.tmp 2) (.tmp 39) (by rfl) w.heap.size [.bool false, .slice a6 k c6, .slice none 0 0] (by rfl) (by rfl) aggItem hz6 (by rfl) (by rfl) (by intro u hu; simp at hu; rcases hu with rfl | rfl | rfl <;> rfl) (Below.refl _ _) (Nat.le_refl _) ?_; intro w7 hh7 _ hg7))
          have R7 := R6.fresh hg7 (fun y hy => by cases hy; exact Nat.le_refl _) hglt
          have o7 := o6.grown hg7 (fun k hk e => by cases hk; have := o6.lt _ e; omega)
          refine bodyPost_ret (results_blk rfl _ _ w.heap.size aggItem hh7 rfl rfl) rfl ⟨.mk false (.slice a6 k c6) t (.slice none 0 0) [], a5, c5, rfl, ?_, ?_, R7.hg, Fp.txt o7 (fun _ h => by omega), by rw [erI_mk]; rfl, .txt _ _ _⟩
          · rw [Hdl.out]; exact R7.hs
          · rw [Hdl.out]; exact R7.hB
end Go.Proofs.Ytohenjgegkgncaa
