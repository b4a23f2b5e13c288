/- bloom.May, the reference's JMay. -/
import Derived.Test.YtljbbpcnoajfeaaBloom7
set_option linter.unusedSimpArgs false
set_option linter.unusedVariables false
namespace Go.Proofs.Ytljbbpcnoajfeaa
open Go.RowKit
/-- may a text be in it? -/
def mayB (F l : List UInt8) : Bool := wit (mkF (hasT l) 256) F
theorem may_is {F l : List UInt8} (hF : F.length = 32) {t0 t1 t2 : UInt8} (ht : trip l = [t0, t1, t2]) : mayB F l = (fb F t0.toNat && fb F t1.toNat && fb F t2.toNat) := by
  unfold mayB
  have hh : ∀ m, m < 256 → fb (mkF (hasT l) 256) m = hasT l m := fun m hm => by rw [fb_mkF _ 256 (by omega)]; simp [hm]
  have hself : ∀ t : UInt8, ((t.toNat : Int) == (t.toNat : Int)) = true := fun t => by simp
  have h0 : hasT l t0.toNat = true := by rw [hasT_of ht, hself]; simp
  have h1 : hasT l t1.toNat = true := by rw [hasT_of ht, hself]; simp
  have h2 : hasT l t2.toNat = true := by rw [hasT_of ht, hself]; simp
  cases e0 : fb F t0.toNat with
  | false => exact (wit_no t0.toNat t0.toNat_lt (by rw [hh _ t0.toNat_lt]; exact h0) e0)
  | true =>
    cases e1 : fb F t1.toNat with
    | false => exact (wit_no t1.toNat t1.toNat_lt (by rw [hh _ t1.toNat_lt]; exact h1) e1)
    | true =>
      cases e2 : fb F t2.toNat with
      | false => exact (wit_no t2.toNat t2.toNat_lt (by rw [hh _ t2.toNat_lt]; exact h2) e2)
      | true =>
        refine wit_yes hF (fun n hn h => ?_)
        rw [hh n hn, hasT_of ht] at h
        simp only [Bool.or_eq_true, beq_iff_eq] at h
        rcases h with (h | h) | h
        · rw [show n = t0.toNat from by omega]; exact e0
        · rw [show n = t1.toNat from by omega]; exact e1
        · rw [show n = t2.toNat from by omega]; exact e2
theorem hasB_one (v : Value) (l : List UInt8) : hasB [(v, l)] = hasT l := by
  funext m; simp [hasB]
def OneText (v0 : Value) (l : List UInt8) : Ty := fun v w => Texts w v [(v0, l)]
theorem OneText.mono (v0 : Value) (l : List UInt8) : Mono (OneText v0 l) := fun _ _ _ h hb => Texts.below h hb
set_option maxHeartbeats 1000000 in
set_option maxRecDepth 100000 in
theorem may_any (F : List UInt8) (hF : F.length = 32) (a : Option Addr) (n c : Nat) (l : List UInt8) (w : World) (h : Bytes w (.slice a n c) l) :
    Calls Try.prog 67 #[.agg (fcs F).toArray, .slice a n c] w fun e w' => e = .returned (.bool (mayB F l)) ∧ Below w.heap.size w w' := by
  have hf1 := Blk.new w 43 (fcs F)
  have hbel1 : Below w.heap.size w (w.alloc (.cells (fcs F).toArray 43)) := (Below.refl _ _).alloc (Nat.le_refl _) _
  have co : ∀ x v, Texts x v [(.slice a n c, l)] → Calls Try.prog 101 #[v] x fun e w' => e = .returned (.agg (fcs (mkF (hasT l) 256)).toArray) ∧ Below x.heap.size x w' := by
    intro x v ht
    obtain ⟨a', c', rfl, _, _⟩ := ht.1.form
    have := of_any a' 1 c' [(.slice a n c, l)] rfl x ht
    rw [hasB_one] at this
    exact this
  have cw := fun x => within_any (mkF (hasT l) 256) F (mkF_len _ _) hF x
  have hfl := fcs_len hF
  obtain ⟨E, hE⟩ : ∃ E, E = fcs F := ⟨_, rfl⟩
  obtain ⟨J, hJ⟩ : ∃ J, J = fcs (mkF (hasT l) 256) := ⟨_, rfl⟩
  simp only [← hE, ← hJ] at hf1 hbel1 co cw hfl
  rw [← hE]
  obtain ⟨w1, hw1⟩ : ∃ w1, w1 = w.alloc (.cells E.toArray 43) := ⟨_, rfl⟩
  rw [← hw1] at hf1 hbel1
  have hb1 := h.below hbel1
  have Hw1 := Lib.hid hw1
  have Co := Lib.hid co
  have Cw := Lib.hid cw
  have R1 := Lib.hid (Blk.all0 hf1)
  have Hfl := Lib.hid hfl
  clear hw1 co cw hfl hE hJ hf1 h
  go_enter Try.func67, Try.ntmps67
  go_wp2_with fail
  rw [← Hw1.out]
  refine wp_region_typed w1 5 (by kernel_rfl) (by kernel_rfl) (Below.refl _ _) ?_; simp only [List.take_succ_cons, List.take_zero, List.take_nil]
  (refine wpX_step (by rfl) (fun K hK => ?_); go_simp; first | (refine hK _ ?_; clear hK K) | (apply Exists.intro; refine ⟨fun _ => ?_, hK _ ?_⟩; fail; clear hK K))
  refine wpX_rel 6 (OneText (.slice a n c) l) rfl (of_decide_eq_true rfl) (OneText.mono _ _) (fun w2 hw2 => ?_) ?_
  · simp only [relOf, List.filter_nil, forallRel]
    refine ⟨rfl, ?_⟩
    go_simp
    exact ⟨(Below.refl _ _).alloc (Nat.le_refl _) _, Row.made w2 1 [.slice a n c] 22 1 rfl (by unfold maxLen; omega), fun p hp => by
      rw [List.mem_singleton] at hp
      rw [hp]
      exact (hb1.below hw2).alloc _⟩
  refine wpX_eq (.agg J.toArray) (fun w2 hw2 => ?_) ?_
  · change forallRel w2 [(6, _)] _ _
    intro v33 h33
    simp only [forallRel]
    refine ⟨rfl, ?_⟩
    go_simp
    refine (Co.out w2 v33 h33).mono ?_
    rintro e w3 ⟨rfl, b3⟩
    exact ⟨_, rfl, rfl, b3⟩
  (refine wpX_step (by rfl) (fun K hK => ?_); rw [if_pos (by rfl)]; refine ⟨_, fun u => const_loadm _ (.tmp 2) (by rfl) _ _ (by rfl) aggHash' Hfl.out (rangeAt.ext R1.out u), hK _ ?_⟩; clear hK K; simp only [Act.put, List.setIfInBounds_toArray, List.set_cons_zero, List.set_cons_succ])
  (refine wpX_step (by rfl) (fun K hK => ?_); go_simp; first | (refine hK _ ?_; clear hK K) | (apply Exists.intro; refine ⟨fun _ => ?_, hK _ ?_⟩; exact Cw.out _; clear hK K))
  refine wpX_nil ?_
  intro u2 hb2 v6 _
  change wpList _ _ _ [_] _ _
  have hbel2 := Below.then hbel1 hb2
  go_wp2
  go_ret
  exact ⟨rfl, hbel2⟩
set_option maxHeartbeats 4000000 in
set_option maxRecDepth 100000 in
theorem jmay_any (F : List UInt8) (hF : F.length = 32) (a : Option Addr) (n c : Nat) (l : List UInt8) (hn : l.length = n) (w : World) (h : Bytes w (.slice a n c) l) (hl : n + 64 ≤ 140737488355328) :
    Calls Try.prog 64 #[.agg (fcs F).toArray, .slice a n c] w fun e w' => e = .returned (.bool (mayB F l)) ∧ Below w.heap.size w w' := by
  have hf1 := Blk.new w 43 (fcs F)
  have hbel1 : Below w.heap.size w (w.alloc (.cells (fcs F).toArray 43)) := (Below.refl _ _).alloc (Nat.le_refl _) _
  obtain ⟨t0, t1, t2, ht⟩ := trip3 l
  have hts := scs_trip ht
  have hmay := may_is hF ht
  have cs : ∀ x, Bytes x (.slice a n c) l → Calls Try.prog 76 #[.slice a n c] x fun e w' => e = .returned (.agg (scs l).toArray) ∧ Below x.heap.size x w' := fun x h => ssum_any a n c l hn x h hl
  have c0 := fun x => jhas_any F hF t0.toNat t0.toNat_lt x
  have c1 := fun x => jhas_any F hF t1.toNat t1.toNat_lt x
  have c2 := fun x => jhas_any F hF t2.toNat t2.toNat_lt x
  obtain ⟨b0, hb0⟩ : ∃ b, b = fb F t0.toNat := ⟨_, rfl⟩
  obtain ⟨b1, hb1⟩ : ∃ b, b = fb F t1.toNat := ⟨_, rfl⟩
  obtain ⟨b2, hb2⟩ : ∃ b, b = fb F t2.toNat := ⟨_, rfl⟩
  simp only [← hb0] at c0
  simp only [← hb1] at c1
  simp only [← hb2] at c2
  rw [← hb0, ← hb1, ← hb2] at hmay
  have hsl := scs_len l
  have hso := scs_one l
  have hfl := fcs_len hF
  obtain ⟨C, hC⟩ : ∃ C, C = scs l := ⟨_, rfl⟩
  obtain ⟨E, hE⟩ : ∃ E, E = fcs F := ⟨_, rfl⟩
  simp only [← hC] at cs hts hsl hso
  simp only [← hE] at hf1 hbel1 c0 c1 c2 hfl
  rw [← hE]
  have htl0 := t0.toNat_lt
  have htl1 := t1.toNat_lt
  have htl2 := t2.toNat_lt
  have Cs := Lib.hid cs
  have C0 := Lib.hid c0
  have C1 := Lib.hid c1
  have C2 := Lib.hid c2
  have Hts := Lib.hid hts
  have Hsl := Lib.hid hsl
  have Hso := Lib.hid hso
  have Hfl := Lib.hid hfl
  have Hmay := Lib.hid hmay
  clear cs c0 c1 c2 hts hsl hso hfl hmay hC hE hb0 hb1 hb2 ht hn
  have h3 : b0 = false ∨ (b0 = true ∧ b1 = false) ∨ (b0 = true ∧ b1 = true) := by cases b0 <;> cases b1 <;> simp
  have tok1 : True := trivial
  have tok2 : True := trivial
  rcases h3 with rfl | ⟨rfl, rfl⟩ | ⟨rfl, rfl⟩
  all_goals
    go_enter Try.func64, Try.ntmps64
    go_wp2_with (first
      | (go_at_call 76; refine (Cs.out _ (h.below hbel1)).mono ?_; rintro e w2 ⟨rfl, b2'⟩; have hf2 := hf1.kept b2'; have hbel2 := Below.then hbel1 b2'; have hn2 := Blk.new w2 43 zh; have hf3 := hf2.alloc (.cells zh.toArray 43); have hbel3 := hbel2.alloc hbel2.size (.cells zh.toArray 43))
      | (refine wpList_storeA (o := ⟨none, _, _, _, _, _⟩) (by rfl) 43 (.tmp 5) (.tmp 7) (by rfl) w2.heap.size C (by rfl) (by rfl) aggHash' hn2 Hsl.out (by rfl) Hso.out (Below.refl _ _) (Nat.le_refl _) ?_; intro w4 hh4 _ hg4; have hf4 := hf3.grown hg4 (by have := hf2.lt; simp; omega); have hbel4 := hbel3.grown hg4 hbel3.size (fun j hj => by cases hj; exact hbel2.size); have k0 := (hh4.cell 0).trans Hts.out.1; have k1 := (hh4.cell 1).trans Hts.out.2.1; have k2 := (hh4.cell 2).trans Hts.out.2.2; clear hf1 hbel1 hf2 hbel2 hf3 hbel3 b2' hn2 hg4)
      | (refine wpList_loadW (o := ⟨some 8, _, _, _, _, _⟩) 43 (.tmp 2) (by rfl) w.heap.size 0 (by rfl) aggHash' Hfl.out (Blk.all0 hf4) (by rfl) ?_)
      | (refine wpList_loadW (o := ⟨some 14, _, _, _, _, _⟩) 43 (.tmp 2) (by rfl) w.heap.size 0 (by rfl) aggHash' Hfl.out (Blk.all0 hf4) (by rfl) ?_)
      | (refine wpList_loadW (o := ⟨some 21, _, _, _, _, _⟩) 43 (.tmp 2) (by rfl) w.heap.size 0 (by rfl) aggHash' Hfl.out (Blk.all0 hf4) (by rfl) ?_)
      | (go_at_call 99; have _t := tok1; (with_reducible refine (C0.out _).mono ?_); rintro e w5 ⟨rfl, b5⟩; replace hh4 := hh4.kept b5; have k1 := (hh4.cell 1).trans Hts.out.2.1; have k2 := (hh4.cell 2).trans Hts.out.2.2; replace hf4 := hf4.kept b5; replace hbel4 := Below.then hbel4 b5; clear tok1 _t b5)
      | (go_at_call 99; have _t := tok2; (with_reducible refine (C1.out _).mono ?_); rintro e w6 ⟨rfl, b6⟩; replace hh4 := hh4.kept b6; have k2 := (hh4.cell 2).trans Hts.out.2.2; replace hf4 := hf4.kept b6; replace hbel4 := Below.then hbel4 b6; clear tok2 _t b6)
      | (go_at_call 99; (with_reducible refine (C2.out _).mono ?_); rintro e w7 ⟨rfl, b7⟩; replace hbel4 := Below.then hbel4 b7))
    go_ret
    exact ⟨by rw [Hmay.out]; simp, hbel4⟩
end Go.Proofs.Ytljbbpcnoajfeaa
