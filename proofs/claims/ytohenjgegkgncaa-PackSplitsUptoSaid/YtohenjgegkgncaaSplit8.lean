/- (*reader).item: a list. -/
import Derived.Test.YtohenjgegkgncaaSplit7
set_option linter.unusedSimpArgs false
set_option linter.unusedVariables false
namespace Go.Proofs.Ytohenjgegkgncaa
open Go.RowKit
theorem aggReader : Agg Try.prog 113 1 := ⟨_, Try.underlying113, rfl, by kernel_rfl⟩
theorem ItemPost_none (v : Value) (b : List UInt8) (g : Nat) (w : World) : ItemPost none v b g w = fun e w' => e = .panicked mis ∧ w.grownBy w' (some g) := rfl
theorem ItemPost_some (p : Pit) (r : List UInt8) (v : Value) (b : List UInt8) (g : Nat) (w : World) : ItemPost (some (p, r)) v b g w = fun e w' => ∃ it a' c', e = .returned (.agg (icells it).toArray) ∧ SubB v b (.slice a' r.length c') r ∧ Blk 113 w' g [.slice a' r.length c'] ∧ w.grownBy w' (some g) ∧ Fp (fun x => w.heap.size ≤ x) w' it ∧ erI it = p ∧ BareI it := rfl
set_option maxHeartbeats 4000000 in
set_option maxRecDepth 100000 in
theorem item_list (n : Nat) (ih : ∀ (b : List UInt8), b.length ≤ n → b.length ≤ 1048576 → ∀ (a : Option Addr) (L c g : Nat) (w : World), b.length = L → Blk 113 w g [.slice a L c] → Bytes w (.slice a L c) b → Calls Try.prog 72 #[.pointer (some ⟨g, 0, none⟩)] w (ItemPost (par n b) (.slice a L c) b g w))
    (a : Option Addr) (L c : Nat) (x : UInt8) (r : List UInt8) (hL : (x :: r).length = L) (hn : L ≤ n + 1) (hLs : L ≤ 1048576) (h192 : 192 ≤ x.toNat) (g : Nat) (w : World) (hB : Blk 113 w g [.slice a L c]) (h : Bytes w (.slice a L c) (x :: r)) :
    Calls Try.prog 72 #[.pointer (some ⟨g, 0, none⟩)] w (ItemPost (par (n + 1) (x :: r)) (.slice a L c) (x :: r) g w) := by
  have hglt := hB.lt
  have hLm : L ≤ maxLen := by unfold maxLen; omega
  have R0 := Rd.start hB hL hLm
  have h0 : ∀ u, w.grownBy u (some g) → Bytes u (.slice a L c) (x :: r) := fun u hu => Bytes.off_r h hB ⟨_, _, _, rfl⟩ hu
  have hz1 := Blk.new w 25 [.bool false, .slice none 0 0, .slice none 0 0]
  have R1 := R0.alloc (.cells #[.bool false, .slice none 0 0, .slice none 0 0] 25)
  have hsz1 : w.heap.size ≤ (w.alloc (.cells #[.bool false, .slice none 0 0, .slice none 0 0] 25)).heap.size := by simp
  obtain ⟨w1, hw1⟩ : ∃ w1, w1 = w.alloc (.cells #[.bool false, .slice none 0 0, .slice none 0 0] 25) := ⟨_, rfl⟩
  rw [← hw1] at R1 hsz1
  change Blk _ (w.alloc (.cells #[.bool false, .slice none 0 0, .slice none 0 0] 25)) _ _ at hz1
  rw [← hw1] at hz1
  have hlt1 := hz1.lt
  have Hw1 := Lib.hid hw1
  clear hw1
  have hxlt := x.toNat_lt
  have hp : par (n + 1) (x :: r) = match hdr x.toNat 192 r with
      | none => none
      | some (k, r') => if r'.length < k then none else match parL (par n) k (r'.take k) with
        | none => none
        | some ks => some (.lst ks, r'.drop k) := by
    rw [par, if_neg (by omega), if_neg (by omega)]
    cases hdr x.toNat 192 r <;> rfl
  rw [hp]
  have t1 : Calls Try.prog 123 #[.pointer (some ⟨g, 0, none⟩), .int .u64 1] w1 _ := take_ok a c L 1 (x :: r) hL hLm (by rw [← hL]; simp) g w1 R1.hB (R1.bytes h0)
  have hrl : r.length = L - 1 := by rw [← hL]; simp
  have hxi : ¬ (x.toNat : Int) < 128 := by omega
  have hxd : decide ((x.toNat : Int) < 128) = false := by rw [decide_eq_false_iff_not]; exact hxi
  have hxj : ¬ (x.toNat : Int) < 192 := by omega
  have hxe : decide ((x.toNat : Int) < 192) = false := by rw [decide_eq_false_iff_not]; exact hxj
  simp only [List.take_succ_cons, List.take_zero, List.drop_succ_cons, List.drop_zero] at t1
  have lc : ∀ (a2 : Option Addr) (c2 : Nat) (u : World), Blk 113 u g [.slice a2 (L - 1) c2] → Bytes u (.slice a2 (L - 1) c2) r → Calls Try.prog 124 #[.pointer (some ⟨g, 0, none⟩), .int .u8 (x.toNat : Int), .int .u8 192] u (HdrPost (hdr x.toNat 192 r) (.slice a2 (L - 1) c2) r g u) :=
    fun a2 c2 u h1 h2 => length_any x.toNat 192 (by omega) h192 (by omega) a2 c2 (L - 1) r hrl (by omega) g u h1 h2
  have T1 := Lib.hid t1
  have Hrl := Lib.hid hrl
  have H0 := Lib.hid h0
  have HL := Lib.hid hL
  have Ih := Lib.hid ih
  clear t1 hp h0 hrl hL h192 h ih hxlt
  cases hh : hdr x.toNat 192 r with
  | none =>
    simp only [hh, HdrPost_none] at lc
    have Lc := Lib.hid lc
    clear lc hh
    dsimp only
    go_enter Try.func72, Try.ntmps72
    go_wp2_with fail
    rw [← Hw1.out]
    go_wp2_with (first
      | (go_at_call 123; (with_reducible refine T1.out.mono ?_); rintro e w2 ⟨a1, c1, a2, c2, rfl, r1, r2, B2, g2⟩; have R2 : Rd w (.slice a L c) (x :: r) g w2 a2 (L - 1) c2 r := R1.next g2 B2 r2 Hrl.out (by omega); have hz2 := hz1.grown g2 (by simp; omega); obtain ⟨b, off, rfl, hc⟩ := Bytes.at (r1 w2 (H0.out w2 R2.hg)) 0 (by simp); simp only [List.getElem_cons_zero, Nat.add_zero] at hc)
      | (go_at_call 124; (with_reducible refine (Lc.out _ _ _ R2.hB (R2.bytes H0.out)).mono ?_); rintro e w3 ⟨rfl, g3⟩))
    exact ⟨rfl, rfl, grown_trans R2.hg g3⟩
  | some kr =>
    obtain ⟨k, r'⟩ := kr
    obtain ⟨j, hj, hjl⟩ := hdr_suf hh
    have hr'l : r'.length ≤ L - 1 := by rw [hj, List.length_drop, Hrl.out]; omega
    simp only [hh, HdrPost_some] at lc
    have Lc := Lib.hid lc
    clear lc hh hj hjl
    dsimp only
    obtain ⟨M, hM⟩ : ∃ M, M = r'.length := ⟨_, rfl⟩
    rw [← hM] at Lc hr'l
    have hMm : M ≤ maxLen := by omega
    simp only [← hM]
    have HM := Lib.hid hM.symm
    clear hM
    by_cases hk : M < k
    · rw [if_pos hk]
      go_enter Try.func72, Try.ntmps72
      go_wp2_with fail
      rw [← Hw1.out]
      go_wp2_with (first
        | (go_at_call 123; (with_reducible refine T1.out.mono ?_); rintro e w2 ⟨a1, c1, a2, c2, rfl, r1, r2, B2, g2⟩; have R2 : Rd w (.slice a L c) (x :: r) g w2 a2 (L - 1) c2 r := R1.next g2 B2 r2 Hrl.out (by omega); have hz2 := hz1.grown g2 (by simp; omega); obtain ⟨b, off, rfl, hc⟩ := Bytes.at (r1 w2 (H0.out w2 R2.hg)) 0 (by simp); simp only [List.getElem_cons_zero, Nat.add_zero] at hc)
        | (go_at_call 124; (with_reducible refine (Lc.out _ _ _ R2.hB (R2.bytes H0.out)).mono ?_); rintro e w3 ⟨a3, c3, rfl, s3, B3, g3⟩; have R3 := R2.next g3 B3 s3 HM.out (by omega); have hz3 := hz2.grown g3 (by simp; omega))
        | (go_at_call 123; (with_reducible refine (take_bad a3 c3 M k hMm hk g w3 R3.hB).mono ?_); rintro e w4 ⟨rfl, rfl⟩))
      exact ⟨rfl, rfl, R3.hg⟩
    · rw [if_neg hk]
      have hkM : k ≤ M := by omega
      have htl : (r'.take k).length = k := by rw [List.length_take, HM.out]; omega
      have hdl : (r'.drop k).length = M - k := by rw [List.length_drop, HM.out]
      have tk : ∀ (a3 : Option Addr) (c3 : Nat) (u : World), Blk 113 u g [.slice a3 M c3] → Bytes u (.slice a3 M c3) r' → Calls Try.prog 123 #[.pointer (some ⟨g, 0, none⟩), .int .u64 (k : Int)] u _ := fun a3 c3 u h1 h2 => take_ok a3 c3 M k r' HM.out hMm hkM g u h1 h2
      obtain ⟨t, ht⟩ : ∃ t, t = r'.take k := ⟨_, rfl⟩
      obtain ⟨d, hd⟩ : ∃ d, d = r'.drop k := ⟨_, rfl⟩
      obtain ⟨PL, hPL⟩ : ∃ PL, PL = parL (par n) k t := ⟨_, rfl⟩
      simp only [← ht, ← hd] at tk htl hdl ⊢
      rw [← hPL]
      have Tk := Lib.hid tk
      have Hdl := Lib.hid hdl
      have Htl := Lib.hid htl
      have HPL := Lib.hid hPL
      clear tk ht hd htl hdl hk hPL
      have hk8 : k ≤ 1048576 := by omega
      have hkn : k ≤ n := by omega
      go_enter Try.func72, Try.ntmps72
      go_wp2_with fail
      rw [← Hw1.out]
      go_wp2_with (first
        | (go_at_call 123; (with_reducible refine T1.out.mono ?_); rintro e w2 ⟨a1, c1, a2, c2, rfl, r1, r2, B2, g2⟩; have R2 : Rd w (.slice a L c) (x :: r) g w2 a2 (L - 1) c2 r := R1.next g2 B2 r2 Hrl.out (by omega); have hz2 := hz1.grown g2 (by simp; omega); obtain ⟨b, off, rfl, hc⟩ := Bytes.at (r1 w2 (H0.out w2 R2.hg)) 0 (by simp); simp only [List.getElem_cons_zero, Nat.add_zero] at hc)
        | (go_at_call 124; (with_reducible refine (Lc.out _ _ _ R2.hB (R2.bytes H0.out)).mono ?_); rintro e w3 ⟨a3, c3, rfl, s3, B3, g3⟩; have R3 := R2.next g3 B3 s3 HM.out (by omega); have hz3 := hz2.grown g3 (by simp; omega))
        | (go_at_call 123; refine (Tk.out a3 c3 w3 R3.hB (R3.bytes H0.out)).mono ?_; rintro e w4 ⟨a4, c4, a5, c5, rfl, r4, r5, B4, g4⟩; have R4 : Rd w (.slice a L c) (x :: r) g w4 a5 (M - k) c5 d := R3.next g4 B4 r5 Hdl.out (by omega); have hz4 := hz3.grown g4 (by simp; omega); have hs4 : SubB (.slice a L c) (x :: r) (.slice a4 k c4) t := R3.hs.trans r4; have hI4 := Blk.new w4 113 [.slice none 0 0]; have hz5 := hz4.alloc (.cells #[.slice none 0 0] 113); have R5 := R4.alloc (.cells #[.slice none 0 0] 113); have hlt4 := hz4.lt)
        | ((with_reducible show wpList _ _ _ (⟨none, Op.store _ _ (Operand.tmp 45), _, _, _, _⟩ :: _) _ _); refine wpList_storeA (o := ⟨none, _, _, _, _, _⟩) (by rfl) 113 (.tmp 5) (.tmp 45) (by rfl) w4.heap.size [.slice a4 k c4] (by rfl) (by rfl) aggReader hI4 (by rfl) (by rfl) (by intro u hu; simp at hu; subst hu; rfl) (Below.refl _ _) (Nat.le_refl _) ?_; intro w6 hI6 _ hg6; have R6 := R5.fresh hg6 (fun y hy => by cases hy; omega) hglt; have hz6 := hz5.grown hg6 (by simp; omega); have hm6 := Blk.new w6 25 [.bool false, .slice none 0 0, .slice none 0 0]; have hI7 := hI6.alloc (.cells #[.bool false, .slice none 0 0, .slice none 0 0] 25); have hz7 := hz6.alloc (.cells #[.bool false, .slice none 0 0, .slice none 0 0] 25); have R7 := R6.alloc (.cells #[.bool false, .slice none 0 0, .slice none 0 0] 25); have hlt6 := hI6.lt)
        | ((with_reducible show wpList _ _ _ (⟨none, Op.store _ _ (Operand.tmp 46), _, _, _, _⟩ :: _) _ _); refine wpList_storeA (o := ⟨none, _, _, _, _, _⟩) (by rfl) 25 (.tmp 6) (.tmp 46) (by rfl) w6.heap.size [.bool true, .slice none 0 0, .slice none 0 0] (by rfl) (by rfl) aggItem hm6 (by rfl) (by rfl) (by intro u hu; simp at hu; rcases hu with rfl | rfl <;> rfl) (Below.refl _ _) (Nat.le_refl _) ?_; intro w8 hm8 _ hg8))
      have F8 : LsW w (.slice a L c) (x :: r) g w4.heap.size w6.heap.size a5 (M - k) c5 d a4 k c4 t (.slice none 0 0) [] w8 :=
        ⟨R7.fresh hg8 (fun y hy => by cases hy; omega) hglt, hI7.grown hg8 (by simp; omega), hs4, Htl.out, hm8, hz7.grown hg8 (by simp; omega), OwnOf.nil icells 3 _ _ _, by simp, hlt4, hlt6, hglt⟩
      obtain ⟨gi, hgi⟩ : ∃ gi, gi = w4.heap.size := ⟨_, rfl⟩
      obtain ⟨g6, hg6'⟩ : ∃ g6, g6 = w6.heap.size := ⟨_, rfl⟩
      rw [← hgi, ← hg6'] at F8
      rw [← hgi, ← hg6']
      clear R0 R1 hz1 R2 hz2 R3 hz3 R4 hz4 hs4 hI4 hz5 R5 hlt4 hI6 R6 hz6 hm6 hI7 hz7 R7 hlt6 hm8 B2 g2 r1 r2 hc B3 g3 s3 r4 r5 B4 g4 hg6 hg8 hgi hg6' hB
      simp only [Act.put]
      go_loopw [] (fun wr => ∃ (a6 : Option Addr) (L6 c6 : Nat) (rem : List UInt8) (kv : Value) (ks : List Itm) (m : Nat), LsW w (.slice a L c) (x :: r) g gi g6 a5 (M - k) c5 d a6 L6 c6 rem kv ks wr ∧ L6 ≤ m ∧ L6 ≤ k ∧ ks.length + L6 ≤ k ∧ PL = (parL (par n) m rem).map (fun ps => ks.map erI ++ ps)) (fun wr => lenV ((wr.cell? ⟨gi, 0, none⟩).getD undef))
      case atStart => exact ⟨a4, k, c4, t, .slice none 0 0, [], k, F8, Nat.le_refl _, Nat.le_refl _, by simp, by rw [HPL.out]; cases parL (par n) k t <;> simp⟩
      case round =>
        clear F8
        obtain ⟨a6, L6, c6, rem, kv, ks, m, F, hLm6, hLk6, hks, hrel2⟩ := hrel
        have HRel := Lib.hid hrel2
        clear hrel2
        have hi0 : wr.cell? ⟨gi, 0, none⟩ = some (.slice a6 L6 c6) := F.hI.cell 0
        by_cases hr0 : L6 = 0
        · subst hr0
          obtain rfl : rem = [] := List.eq_nil_of_length_eq_zero F.hl
          have hPL2 : PL = some (ks.map erI) := by rw [HRel.out, parL_nil]; simp
          subst hPL2
          obtain ⟨ka, kc, rfl, _⟩ := F.hO.form
          go_wp2_with (first
            | (refine wpList_loadA (o := ⟨some 57, _, _, _, _, _⟩) (by rfl) 25 (.tmp 6) (by rfl) g6 (by rfl) aggItem F.hm (by rfl) ?_)
            | ((with_reducible show wpList _ _ _ (⟨none, Op.store _ _ (Operand.tmp 57), _, _, _, _⟩ :: _) _ _); refine wpList_storeA (o := ⟨none, _, _, _, _, _⟩) (by rfl) 25 (.tmp 2) (.tmp 57) (by rfl) w.heap.size [.bool true, .slice none 0 0, .slice ka ks.length kc] (by rfl) (by rfl) aggItem F.hz (by rfl) (by rfl) (by intro u hu; simp at hu; rcases hu with rfl | rfl | rfl <;> rfl) (Below.refl _ _) (Nat.le_refl _) ?_; intro w9 hh9 _ hg9))
          have q1 := F.h1
          have q2 := F.h2
          have R9 := F.hR.fresh hg9 (fun y hy => by cases hy; exact Nat.le_refl _) hglt
          have o9 := F.hO.grown hg9 (fun y hy e => by cases hy; have := F.hO.lt _ e; omega)
          refine bodyPost_ret (results_blk rfl _ _ w.heap.size aggItem hh9 rfl rfl) rfl ⟨.mk true (.slice none 0 0) [] (.slice ka ks.length kc) ks, a5, c5, rfl, ?_, ?_, R9.hg, Fp.lst o9 (fun k hk => (F.hF k hk).1.to hg9.size (fun y hy hl => ⟨hg9.block y hl (by simp; omega), by omega⟩)) (fun y hy => by omega), by rw [erI_mk]; rfl, .lst _ _ _ (fun k hk => (F.hF k hk).2)⟩
          · rw [Hdl.out]; exact R9.hs
          · rw [Hdl.out]; exact R9.hB
        · have hpos : (0 : Int) < (L6 : Int) := by omega
          have hposd : decide ((0 : Int) < (L6 : Int)) = true := by rw [decide_eq_true_eq]; exact hpos
          have hposn : decide (0 < L6) = true := by rw [decide_eq_true_eq]; omega
          have hrne : rem ≠ [] := fun e => by have := F.hl; rw [e] at this; simp at this; omega
          have hc := fun (u : World) (hB : Blk 113 u gi [.slice a6 L6 c6]) (hb : Bytes u (.slice a6 L6 c6) rem) => Ih.out rem (by have := F.hl; omega) (by have := F.hl; omega) a6 L6 c6 gi u F.hl hB hb
          obtain ⟨m', rfl⟩ : ∃ m', m = m' + 1 := ⟨m - 1, by omega⟩
          cases hpar : par n rem with
          | none =>
            have hPL2 : PL = none := by rw [HRel.out, parL_none hrne hpar]; rfl
            subst hPL2
            simp only [hpar, ItemPost_none] at hc
            have Hc := Lib.hid hc
            clear hc hpar hrne hr0
            obtain ⟨ka, kc, rfl, _⟩ := F.hO.form
            go_wp2_with fail
            refine wp_region_h (Any) (by kernel_rfl) ?_; intro u0 hu0; simp only [List.length_cons, List.length_nil, Nat.reduceAdd, List.replicate_succ, List.replicate_zero]
            have F0 : LsW w (.slice a L c) (x :: r) g gi g6 a5 (M - k) c5 d a6 L6 c6 rem (.slice ka ks.length kc) ks u0 := by rw [hu0]; exact F.kept (Below.refl _ _).drew
            have hT : Any u0 := trivial
            clear hu0 hi0 F
            have hk0 := (F0.hm.cell 2).trans (show _ = some (Value.slice ka ks.length kc) from rfl)
            (refine wpH_take 0 (by rfl) (by kernel_rfl) (by intro _ _ _ h; first | exact h | (cases h.1)) (by intro _ _ _ _ h; first | exact h | (cases h.1)) (by assumption) (fun K hK => ?_); simp only [List.setIfInBounds_toArray, List.set_cons_zero, List.set_cons_succ] at hK; go_simp; first | (refine hK _ ?_; clear hK K) | (apply Exists.intro; refine ⟨fun _ => rfl, hK _ ?_⟩; clear hK K))
            refine wpH_all [1, 2] (by kernel_rfl) (by simp) ?_
            intro i hi
            simp only [List.mem_cons, List.not_mem_nil, or_false] at hi
            rcases hi with rfl | rfl
            · (refine brH_of (i := 1) (by rfl) (fun K hK => ?_); simp only [List.setIfInBounds_toArray, List.set_cons_zero, List.set_cons_succ] at hK; go_simp)
              refine hK _ _ trivial ?_; clear hK K
              (refine wpH_only 2 (by rfl) (by kernel_rfl) (fun K hK => ?_); simp only [List.setIfInBounds_toArray, List.set_cons_zero, List.set_cons_succ] at hK; go_simp)
              refine (Hc.out _ F0.hI (F0.hs _ (H0.out _ F0.hR.hg))).mono ?_
              rintro e u1 ⟨rfl, gg1⟩
              have q1 := F0.h1
              exact ⟨rfl, rfl, grown_fresh F0.hR.hg gg1 (fun y hy => by cases hy; omega)⟩
            · (refine brH_of (i := 2) (by rfl) (fun K hK => ?_); simp only [List.setIfInBounds_toArray, List.set_cons_zero, List.set_cons_succ] at hK; go_simp)
              refine (Hc.out _ F0.hI (F0.hs _ (H0.out _ F0.hR.hg))).mono ?_
              rintro e u1 ⟨rfl, gg1⟩
              have q1 := F0.h1
              exact ⟨rfl, rfl, grown_fresh F0.hR.hg gg1 (fun y hy => by cases hy; omega)⟩
          | some pr =>
            obtain ⟨p, r2⟩ := pr
            have hlen2 := par_len hpar
            have hPL2 : PL = (parL (par n) m' r2).map (fun ps => (ks.map erI ++ [p]) ++ ps) := by
              rw [HRel.out, parL_some hrne hpar]
              cases parL (par n) m' r2 <;> simp
            simp only [hpar, ItemPost_some] at hc
            obtain ⟨L7, hL7⟩ : ∃ L7, L7 = r2.length := ⟨_, rfl⟩
            rw [← hL7] at hlen2
            simp only [← hL7] at hc
            rw [F.hl] at hlen2
            have Hc := Lib.hid hc
            have HPL2 := Lib.hid hPL2
            have HL7 := Lib.hid hL7.symm
            clear hc hpar hrne hr0 hPL2 hL7
            obtain ⟨ka, kc, rfl, _⟩ := F.hO.form
            obtain ⟨kn, hkn⟩ : ∃ kn, kn = ks.length := ⟨_, rfl⟩
            rw [← hkn] at F hks
            have Hkn := Lib.hid hkn.symm
            clear hkn
            go_wp2_with fail
            refine wp_region_via (fun aa b w' => ∃ (l2 : Bool) (ta2 : Option Addr) (tn2 tc2 : Nat) (t2 : List UInt8) (ka2 : Option Addr) (kn2 kc2 : Nat) (ks2 : List Itm) (gb : Nat) (a7 : Option Addr) (c7 : Nat) (ka7 : Option Addr) (kc7 : Nat), b = (((((aa.put (some 51) (.pointer (some ⟨g6, 2, none⟩))).put (some 52) (.slice ka kn kc)).put (some 53) (.agg #[.bool l2, .slice ta2 tn2 tc2, .slice ka2 kn2 kc2])).put (some 54) (.slice (some ⟨gb, 0, none⟩) 1 1)).put (some 55) (.slice ka7 (kn + 1) kc7)).put (some 56) (.pointer (some ⟨g6, 2, none⟩)) ∧ LsW w (.slice a L c) (x :: r) g gi g6 a5 (M - k) c5 d a7 L7 c7 r2 (.slice ka7 (kn + 1) kc7) (ks ++ [.mk l2 (.slice ta2 tn2 tc2) t2 (.slice ka2 kn2 kc2) ks2]) w' ∧ erI (.mk l2 (.slice ta2 tn2 tc2) t2 (.slice ka2 kn2 kc2) ks2) = p) ?_ ?_
            · refine wp_region_h (Any) (by kernel_rfl) ?_; intro u0 hu0; simp only [List.length_cons, List.length_nil, Nat.reduceAdd, List.replicate_succ, List.replicate_zero]
              have F0 : LsW w (.slice a L c) (x :: r) g gi g6 a5 (M - k) c5 d a6 L6 c6 rem (.slice ka kn kc) ks u0 := by rw [hu0]; exact F.kept (Below.refl _ _).drew
              have hT : Any u0 := trivial
              clear hu0 hi0 F
              have hk0 := (F0.hm.cell 2).trans (show _ = some (Value.slice ka kn kc) from rfl)
              (refine wpH_take 0 (by rfl) (by kernel_rfl) (by intro _ _ _ h; first | exact h | (cases h.1)) (by intro _ _ _ _ h; first | exact h | (cases h.1)) (by assumption) (fun K hK => ?_); simp only [List.setIfInBounds_toArray, List.set_cons_zero, List.set_cons_succ] at hK; go_simp; first | (refine hK _ ?_; clear hK K) | (apply Exists.intro; refine ⟨fun _ => rfl, hK _ ?_⟩; clear hK K))
              refine wpH_all [1, 2] (by kernel_rfl) (by simp) ?_
              intro i hi
              simp only [List.mem_cons, List.not_mem_nil, or_false] at hi
              rcases hi with rfl | rfl
              · (refine brH_of (i := 1) (by rfl) (fun K hK => ?_); simp only [List.setIfInBounds_toArray, List.set_cons_zero, List.set_cons_succ] at hK; go_simp)
                refine hK _ _ trivial ?_; clear hK K
                (refine wpH_only 2 (by rfl) (by kernel_rfl) (fun K hK => ?_); simp only [List.setIfInBounds_toArray, List.set_cons_zero, List.set_cons_succ] at hK; go_simp)
                refine (Hc.out _ F0.hI (F0.hs _ (H0.out _ F0.hR.hg))).mono ?_
                rintro e u1 ⟨it, a7, c7, rfl, s1, B1, gg1, Fp1, he1, hb1⟩
                have F1 := F0.read gg1 B1 s1 HL7.out
                have Fp1' := F0.apart Fp1
                obtain ⟨l2, tv2, t2, kv2, ks2⟩ := it
                obtain ⟨ta2, tc2, rfl, _, _⟩ := Fp1'.is.inv.1.form
                obtain ⟨ka2, kc2, rfl, _, _⟩ := Fp1'.is.inv.2.1.form
                obtain ⟨tn2, htn2⟩ : ∃ tn2, tn2 = t2.length := ⟨_, rfl⟩
                obtain ⟨kn2, hkn2⟩ : ∃ kn2, kn2 = ks2.length := ⟨_, rfl⟩
                rw [← htn2, ← hkn2] at Fp1' he1 hb1
                rw [← htn2, ← hkn2]
                clear htn2 hkn2 Fp1
                simp only [icells]
                refine hK _ _ trivial ?_; clear hK K
                have hT1 : Any u1 := trivial
                (refine wpH_only 3 (by rfl) (by kernel_rfl) (fun K hK => ?_); simp only [List.setIfInBounds_toArray, List.set_cons_zero, List.set_cons_succ] at hK; go_simp)
                have F2 := F1.kept ((Below.refl u1.heap.size u1).alloc (Nat.le_refl _) (.cells #[.bool l2, .slice ta2 tn2 tc2, .slice ka2 kn2 kc2] 25))
                have Fp2 := Fp1'.to (w' := u1.alloc (.cells #[.bool l2, .slice ta2 tn2 tc2, .slice ka2 kn2 kc2] 25)) (by simp) (fun y hy hl => ⟨(World.grownBy_alloc u1 _ none).block y hl (by simp), hy⟩)
                have hr2 := Row.built icells_len u1 25 [.mk l2 (.slice ta2 tn2 tc2) t2 (.slice ka2 kn2 kc2) ks2] 1 rfl (by unfold maxLen; omega)
                change RowOf icells 3 (u1.alloc (.cells #[.bool l2, .slice ta2 tn2 tc2, .slice ka2 kn2 kc2] 25)) (.slice (some ⟨u1.heap.size, 0, none⟩) 1 1) _ at hr2
                obtain ⟨u2, hu2⟩ : ∃ u2, u2 = u1.alloc (.cells #[.bool l2, .slice ta2 tn2 tc2, .slice ka2 kn2 kc2] 25) := ⟨_, rfl⟩
                rw [← hu2] at F2 Fp2 hr2
                first | rw [← hu2] | skip
                refine hK _ _ trivial ?_; clear hK K
                have hT2 : Any u2 := trivial
                clear hu2
                refine wpH_only 4 (by rfl) (by kernel_rfl) (fun K hK => ?_)
                refine step_appP (by rfl) (.tmp 52) (.tmp 54) 23 (by rfl) elItem (by intro u hu; simp [icells] at hu; rcases hu with rfl | rfl | rfl <;> rfl) (by rfl) F2.hO (by rfl) hr2 F2.hm.lt (by rw [Hkn.out]; simp; omega) (by rw [Hkn.out]; unfold maxLen; simp; omega) (fun v7 u3 hO3 gg3 pp3 => ?_)
                obtain ⟨ka7, kc7, rfl, _⟩ := hO3.form' (kn + 1) (by rw [List.length_append, Hkn.out]; rfl)
                have F4 := F2.grew Fp2 hb1 gg3 hO3 pp3
                have hne4 : (Value.slice ka kn kc).ownBlock ≠ some g6 := fun e => by have := F2.hO.lt g6 e; omega
                obtain ⟨y5, hy5⟩ := (F2.hm.grown gg3 hne4).has 2 (by simp)
                have hf5 := (F2.hm.grown gg3 hne4).free 2
                refine hK _ _ trivial ?_; clear hK K
                have hT3 : Any u3 := trivial
                (refine wpH_take 5 (by rfl) (by kernel_rfl) (by intro _ _ _ h; first | exact h | (cases h.1)) (by intro _ _ _ _ h; first | exact h | (cases h.1)) (by assumption) (fun K hK => ?_); simp only [List.setIfInBounds_toArray, List.set_cons_zero, List.set_cons_succ] at hK; go_simp; first | (refine hK _ ?_; clear hK K) | (apply Exists.intro; refine ⟨fun _ => rfl, hK _ ?_⟩; clear hK K))
                (refine wpH_only 6 (by rfl) (by kernel_rfl) (fun K hK => ?_); simp only [List.setIfInBounds_toArray, List.set_cons_zero, List.set_cons_succ] at hK; go_simp)
                refine hK _ _ trivial ?_; clear hK K
                exact wpH_done (by kernel_rfl) ⟨rfl, l2, ta2, tn2, tc2, t2, ka2, kn2, kc2, ks2, u1.heap.size, a7, c7, ka7, kc7, rfl, F4, he1⟩
              · (refine brH_of (i := 2) (by rfl) (fun K hK => ?_); simp only [List.setIfInBounds_toArray, List.set_cons_zero, List.set_cons_succ] at hK; go_simp)
                refine (Hc.out _ F0.hI (F0.hs _ (H0.out _ F0.hR.hg))).mono ?_
                rintro e u1 ⟨it, a7, c7, rfl, s1, B1, gg1, Fp1, he1, hb1⟩
                have F1 := F0.read gg1 B1 s1 HL7.out
                have Fp1' := F0.apart Fp1
                obtain ⟨l2, tv2, t2, kv2, ks2⟩ := it
                obtain ⟨ta2, tc2, rfl, _, _⟩ := Fp1'.is.inv.1.form
                obtain ⟨ka2, kc2, rfl, _, _⟩ := Fp1'.is.inv.2.1.form
                obtain ⟨tn2, htn2⟩ : ∃ tn2, tn2 = t2.length := ⟨_, rfl⟩
                obtain ⟨kn2, hkn2⟩ : ∃ kn2, kn2 = ks2.length := ⟨_, rfl⟩
                rw [← htn2, ← hkn2] at Fp1' he1 hb1
                rw [← htn2, ← hkn2]
                clear htn2 hkn2 Fp1
                simp only [icells]
                refine hK _ _ trivial ?_; clear hK K
                have hT1 : Any u1 := trivial
                refine wpH_all [1, 3] (by kernel_rfl) (by simp) ?_
                intro i hi
                simp only [List.mem_cons, List.not_mem_nil, or_false] at hi
                rcases hi with rfl | rfl
                · have hk1 := (F1.hm.cell 2).trans (show _ = some (Value.slice ka kn kc) from rfl)
                  (refine brH_of (i := 1) (by rfl) (fun K hK => ?_); simp only [List.setIfInBounds_toArray, List.set_cons_zero, List.set_cons_succ] at hK; go_simp)
                  refine hK _ _ trivial ?_; clear hK K
                  (refine wpH_only 3 (by rfl) (by kernel_rfl) (fun K hK => ?_); simp only [List.setIfInBounds_toArray, List.set_cons_zero, List.set_cons_succ] at hK; go_simp)
                  have F2 := F1.kept ((Below.refl u1.heap.size u1).alloc (Nat.le_refl _) (.cells #[.bool l2, .slice ta2 tn2 tc2, .slice ka2 kn2 kc2] 25))
                  have Fp2 := Fp1'.to (w' := u1.alloc (.cells #[.bool l2, .slice ta2 tn2 tc2, .slice ka2 kn2 kc2] 25)) (by simp) (fun y hy hl => ⟨(World.grownBy_alloc u1 _ none).block y hl (by simp), hy⟩)
                  have hr2 := Row.built icells_len u1 25 [.mk l2 (.slice ta2 tn2 tc2) t2 (.slice ka2 kn2 kc2) ks2] 1 rfl (by unfold maxLen; omega)
                  change RowOf icells 3 (u1.alloc (.cells #[.bool l2, .slice ta2 tn2 tc2, .slice ka2 kn2 kc2] 25)) (.slice (some ⟨u1.heap.size, 0, none⟩) 1 1) _ at hr2
                  obtain ⟨u2, hu2⟩ : ∃ u2, u2 = u1.alloc (.cells #[.bool l2, .slice ta2 tn2 tc2, .slice ka2 kn2 kc2] 25) := ⟨_, rfl⟩
                  rw [← hu2] at F2 Fp2 hr2
                  first | rw [← hu2] | skip
                  refine hK _ _ trivial ?_; clear hK K
                  have hT2 : Any u2 := trivial
                  clear hu2
                  refine wpH_only 4 (by rfl) (by kernel_rfl) (fun K hK => ?_)
                  refine step_appP (by rfl) (.tmp 52) (.tmp 54) 23 (by rfl) elItem (by intro u hu; simp [icells] at hu; rcases hu with rfl | rfl | rfl <;> rfl) (by rfl) F2.hO (by rfl) hr2 F2.hm.lt (by rw [Hkn.out]; simp; omega) (by rw [Hkn.out]; unfold maxLen; simp; omega) (fun v7 u3 hO3 gg3 pp3 => ?_)
                  obtain ⟨ka7, kc7, rfl, _⟩ := hO3.form' (kn + 1) (by rw [List.length_append, Hkn.out]; rfl)
                  have F4 := F2.grew Fp2 hb1 gg3 hO3 pp3
                  have hne4 : (Value.slice ka kn kc).ownBlock ≠ some g6 := fun e => by have := F2.hO.lt g6 e; omega
                  obtain ⟨y5, hy5⟩ := (F2.hm.grown gg3 hne4).has 2 (by simp)
                  have hf5 := (F2.hm.grown gg3 hne4).free 2
                  refine hK _ _ trivial ?_; clear hK K
                  have hT3 : Any u3 := trivial
                  (refine wpH_take 5 (by rfl) (by kernel_rfl) (by intro _ _ _ h; first | exact h | (cases h.1)) (by intro _ _ _ _ h; first | exact h | (cases h.1)) (by assumption) (fun K hK => ?_); simp only [List.setIfInBounds_toArray, List.set_cons_zero, List.set_cons_succ] at hK; go_simp; first | (refine hK _ ?_; clear hK K) | (apply Exists.intro; refine ⟨fun _ => rfl, hK _ ?_⟩; clear hK K))
                  (refine wpH_only 6 (by rfl) (by kernel_rfl) (fun K hK => ?_); simp only [List.setIfInBounds_toArray, List.set_cons_zero, List.set_cons_succ] at hK; go_simp)
                  refine hK _ _ trivial ?_; clear hK K
                  exact wpH_done (by kernel_rfl) ⟨rfl, l2, ta2, tn2, tc2, t2, ka2, kn2, kc2, ks2, u1.heap.size, a7, c7, ka7, kc7, rfl, F4, he1⟩
                · (refine brH_of (i := 3) (by rfl) (fun K hK => ?_); simp only [List.setIfInBounds_toArray, List.set_cons_zero, List.set_cons_succ] at hK; go_simp)
                  have F2 := F1.kept ((Below.refl u1.heap.size u1).alloc (Nat.le_refl _) (.cells #[.bool l2, .slice ta2 tn2 tc2, .slice ka2 kn2 kc2] 25))
                  have Fp2 := Fp1'.to (w' := u1.alloc (.cells #[.bool l2, .slice ta2 tn2 tc2, .slice ka2 kn2 kc2] 25)) (by simp) (fun y hy hl => ⟨(World.grownBy_alloc u1 _ none).block y hl (by simp), hy⟩)
                  have hr2 := Row.built icells_len u1 25 [.mk l2 (.slice ta2 tn2 tc2) t2 (.slice ka2 kn2 kc2) ks2] 1 rfl (by unfold maxLen; omega)
                  change RowOf icells 3 (u1.alloc (.cells #[.bool l2, .slice ta2 tn2 tc2, .slice ka2 kn2 kc2] 25)) (.slice (some ⟨u1.heap.size, 0, none⟩) 1 1) _ at hr2
                  obtain ⟨u2, hu2⟩ : ∃ u2, u2 = u1.alloc (.cells #[.bool l2, .slice ta2 tn2 tc2, .slice ka2 kn2 kc2] 25) := ⟨_, rfl⟩
                  rw [← hu2] at F2 Fp2 hr2
                  first | rw [← hu2] | skip
                  refine hK _ _ trivial ?_; clear hK K
                  have hT2 : Any u2 := trivial
                  clear hu2
                  have hk2 := (F2.hm.cell 2).trans (show _ = some (Value.slice ka kn kc) from rfl)
                  (refine wpH_only 1 (by rfl) (by kernel_rfl) (fun K hK => ?_); simp only [List.setIfInBounds_toArray, List.set_cons_zero, List.set_cons_succ] at hK; go_simp)
                  refine hK _ _ trivial ?_; clear hK K
                  refine wpH_only 4 (by rfl) (by kernel_rfl) (fun K hK => ?_)
                  refine step_appP (by rfl) (.tmp 52) (.tmp 54) 23 (by rfl) elItem (by intro u hu; simp [icells] at hu; rcases hu with rfl | rfl | rfl <;> rfl) (by rfl) F2.hO (by rfl) hr2 F2.hm.lt (by rw [Hkn.out]; simp; omega) (by rw [Hkn.out]; unfold maxLen; simp; omega) (fun v7 u3 hO3 gg3 pp3 => ?_)
                  obtain ⟨ka7, kc7, rfl, _⟩ := hO3.form' (kn + 1) (by rw [List.length_append, Hkn.out]; rfl)
                  have F4 := F2.grew Fp2 hb1 gg3 hO3 pp3
                  have hne4 : (Value.slice ka kn kc).ownBlock ≠ some g6 := fun e => by have := F2.hO.lt g6 e; omega
                  obtain ⟨y5, hy5⟩ := (F2.hm.grown gg3 hne4).has 2 (by simp)
                  have hf5 := (F2.hm.grown gg3 hne4).free 2
                  refine hK _ _ trivial ?_; clear hK K
                  have hT3 : Any u3 := trivial
                  (refine wpH_take 5 (by rfl) (by kernel_rfl) (by intro _ _ _ h; first | exact h | (cases h.1)) (by intro _ _ _ _ h; first | exact h | (cases h.1)) (by assumption) (fun K hK => ?_); simp only [List.setIfInBounds_toArray, List.set_cons_zero, List.set_cons_succ] at hK; go_simp; first | (refine hK _ ?_; clear hK K) | (apply Exists.intro; refine ⟨fun _ => rfl, hK _ ?_⟩; clear hK K))
                  (refine wpH_only 6 (by rfl) (by kernel_rfl) (fun K hK => ?_); simp only [List.setIfInBounds_toArray, List.set_cons_zero, List.set_cons_succ] at hK; go_simp)
                  refine hK _ _ trivial ?_; clear hK K
                  exact wpH_done (by kernel_rfl) ⟨rfl, l2, ta2, tn2, tc2, t2, ka2, kn2, kc2, ks2, u1.heap.size, a7, c7, ka7, kc7, rfl, F4, he1⟩
            rintro b w' ⟨l2, ta2, tn2, tc2, t2, ka2, kn2, kc2, ks2, gb, a7, c7, ka7, kc7, rfl, F7, he7⟩
            simp only [Act.put, List.setIfInBounds_toArray, List.set_cons_zero, List.set_cons_succ]
            have hi7 : w'.cell? ⟨gi, 0, none⟩ = some (.slice a7 L7 c7) := F7.hI.cell 0
            have hrel3 : ∃ (a6 : Option Addr) (L6 c6 : Nat) (rem : List UInt8) (kv : Value) (ks : List Itm) (m : Nat), LsW w (.slice a L c) (x :: r) g gi g6 a5 (M - k) c5 d a6 L6 c6 rem kv ks w' ∧ L6 ≤ m ∧ L6 ≤ k ∧ ks.length + L6 ≤ k ∧ PL = (parL (par n) m rem).map (fun ps => ks.map erI ++ ps) := ⟨a7, L7, c7, r2, _, _, m', F7, by omega, by omega, by rw [List.length_append, Hkn.out]; simp; omega, by rw [HPL2.out, List.map_append, List.map_singleton, he7]⟩
            go_roundw
            case rel => first | exact hrel3 | ((repeat apply Exists.intro); exact ⟨hrel3, rfl⟩)
            case measure => rw [hi7, hi0]; simp only [Option.getD_some, lenV]; omega
end Go.Proofs.Ytohenjgegkgncaa
