/- bloom.Within, the reference's JWithin. -/
import Derived.Test.YtfedjbodcebdnaaBloom6
set_option linter.unusedSimpArgs false
set_option linter.unusedVariables false
namespace Go.Proofs.Ytfedjbodcebdnaa
open Go.RowKit
/-- none of F's bits that G has not -/
def wit (F G : List UInt8) : Bool := mkF (orB F G) 256 == G
theorem wit_no {F G : List UInt8} (n : Nat) (hn : n < 256) (h1 : fb F n = true) (h2 : fb G n = false) : wit F G = false := by
  unfold wit
  rw [beq_eq_false_iff_ne]
  intro e
  have h3 := fb_mkF (orB F G) 256 (by omega) n
  rw [e, h2] at h3
  unfold orB at h3
  rw [h1] at h3
  simp [hn] at h3
theorem wit_yes {F G : List UInt8} (hG : G.length = 32) (h : ∀ n, n < 256 → fb F n = true → fb G n = true) : wit F G = true := by
  unfold wit
  rw [beq_iff_eq]
  refine (mkF_is hG (fun m hm => ?_)).symm
  unfold orB
  cases hf : fb F m with
  | true => rw [h m hm hf]; rfl
  | false => simp
theorem run_eq_f (L M : List UInt8) (hl : L.length = 32) (hm : M.length = 32) (w1 : World) : (binOp .eql 28 (.agg (fcs L).toArray) (.agg (fcs M).toArray)).run Try.prog w1 = .ok (.bool (L == M)) w1 := by
  have h2 : ∀ K : List UInt8, (K.map fun x => (x.toNat : Int)).map (Value.int .u8) = fcs K := fun K => by unfold fcs; rw [List.map_map]; rfl
  have := run_eqA (P := Try.prog) w1 Try.underlying28 Try.underlying5 (by kernel_rfl) (L.map fun x => (x.toNat : Int)) (M.map fun x => (x.toNat : Int)) (by rw [List.length_map, hl]) (by rw [List.length_map, hm])
  rw [h2, h2] at this
  rw [this]
  have e : ((L.map fun x => (x.toNat : Int)) == (M.map fun x => (x.toNat : Int))) = (L == M) := by
    rw [Bool.eq_iff_iff]
    simp only [beq_iff_eq]
    constructor
    · intro e
      have inj : ∀ a b : UInt8, (a.toNat : Int) = (b.toNat : Int) → a = b := fun a b h => UInt8.toNat_inj.1 (by omega)
      apply List.ext_getElem?
      intro i
      have h1 := congrArg (fun l : List Int => l[i]?) e
      simp only [List.getElem?_map] at h1
      cases h3 : L[i]? with
      | none => rw [h3] at h1; cases h4 : M[i]? with
        | none => rfl
        | some y => rw [h4] at h1; simp at h1
      | some x => rw [h3] at h1; cases h4 : M[i]? with
        | none => rw [h4] at h1; simp at h1
        | some y => rw [h4] at h1; simp only [Option.map_some, Option.some.injEq] at h1; rw [inj x y h1]
    · intro e; rw [e]
  rw [e]
theorem guard_f (L M : List UInt8) (o1 o2 : Operand) (w1 : World) : (eqGuard .eql 28 o1 o2 (.agg (fcs L).toArray) (.agg (fcs M).toArray)).run Try.prog w1 = .ok () w1 := by
  exact run_eqGuard_agg (P := Try.prog) (w := w1) .eql 28 o1 o2 _ _ (by kernel_rfl)
set_option maxHeartbeats 1000000 in
set_option maxRecDepth 100000 in
theorem within_any (F G : List UInt8) (hF : F.length = 32) (hG : G.length = 32) (w : World) :
    Calls Try.prog 35 #[.agg (fcs F).toArray, .agg (fcs G).toArray] w fun e w' => e = .returned (.bool (wit F G)) ∧ Below w.heap.size w w' := by
  have hf1 := (Blk.new w 28 (fcs F)).alloc (.cells (fcs G).toArray 28)
  have hg1 : Blk 28 ((w.alloc (.cells (fcs F).toArray 28)).alloc (.cells (fcs G).toArray 28)) (w.heap.size + 1) (fcs G) := by
    have := Blk.new (w.alloc (.cells (fcs F).toArray 28)) 28 (fcs G)
    simpa using this
  have hbel1 : Below w.heap.size w ((w.alloc (.cells (fcs F).toArray 28)).alloc (.cells (fcs G).toArray 28)) := ((Below.refl _ _).alloc (Nat.le_refl _) _).alloc (by simp) _
  have cj := fun x => bjoin_any F G hF hG x
  have g1 := guard_f (mkF (orB F G) 256) G
  have q1 := run_eq_f (mkF (orB F G) 256) G (mkF_len _ _) hG
  have hgl := fcs_len hG
  have hfl := fcs_len hF
  obtain ⟨D, hD⟩ : ∃ D, D = fcs G := ⟨_, rfl⟩
  obtain ⟨E, hE⟩ : ∃ E, E = fcs F := ⟨_, rfl⟩
  obtain ⟨J, hJ⟩ : ∃ J, J = fcs (mkF (orB F G) 256) := ⟨_, rfl⟩
  simp only [← hD, ← hE, ← hJ] at hf1 hg1 hbel1 cj hgl hfl g1 q1
  rw [show (mkF (orB F G) 256 == G) = wit F G from rfl] at q1
  rw [← hD, ← hE]
  obtain ⟨w1, hw1⟩ : ∃ w1, w1 = (w.alloc (.cells E.toArray 28)).alloc (.cells D.toArray 28) := ⟨_, rfl⟩
  rw [← hw1] at hf1 hg1 hbel1
  have Hw1 := Lib.hid hw1
  have Cj := Lib.hid cj
  have G1 := Lib.hid g1
  have Q1 := Lib.hid q1
  have R1 := Lib.hid (Blk.all0 hf1)
  have R2 := Lib.hid (Blk.all0 hg1)
  have Hgl := Lib.hid hgl
  have Hfl := Lib.hid hfl
  clear hw1 cj g1 q1 hgl hfl hD hE hJ hf1 hg1
  go_enter Try.func35, Try.ntmps35
  go_wp2_with fail
  rw [← Hw1.out]
  refine wp_region_typed w1 5 (by kernel_rfl) (by kernel_rfl) (Below.refl _ _) ?_; simp only [List.take_succ_cons, List.take_zero, List.take_nil]
  (refine wpX_step (by rfl) (fun K hK => ?_); rw [if_pos (by rfl)]; refine ⟨_, fun u => const_loadm _ (.tmp 2) (by rfl) _ _ (by rfl) aggHash' Hfl.out (rangeAt.ext R1.out u), hK _ ?_⟩; clear hK K; simp only [Act.put, List.setIfInBounds_toArray, List.set_cons_zero, List.set_cons_succ])
  (refine wpX_step (by rfl) (fun K hK => ?_); rw [if_pos (by rfl)]; refine ⟨_, fun u => const_loadm _ (.tmp 3) (by rfl) _ _ (by rfl) aggHash' Hgl.out (rangeAt.ext R2.out u), hK _ ?_⟩; clear hK K; simp only [Act.put, List.setIfInBounds_toArray, List.set_cons_zero, List.set_cons_succ])
  (refine wpX_step (by rfl) (fun K hK => ?_); go_simp; first | (refine hK _ ?_; clear hK K) | (apply Exists.intro; refine ⟨fun _ => ?_, hK _ ?_⟩; exact Cj.out _; clear hK K))
  (refine wpX_step (by rfl) (fun K hK => ?_); rw [if_pos (by rfl)]; refine ⟨_, fun u => const_loadm _ (.tmp 3) (by rfl) _ _ (by rfl) aggHash' Hgl.out (rangeAt.ext R2.out u), hK _ ?_⟩; clear hK K; simp only [Act.put, List.setIfInBounds_toArray, List.set_cons_zero, List.set_cons_succ])
  (refine wpX_step (by rfl) (fun K hK => ?_); rw [if_pos (by rfl)]; refine ⟨_, fun u => const_eql _ _ _ _ (by rfl) (by rfl) (by rfl) (fun o1 o2 w1 => G1.out o1 o2 w1) (fun w1 => Q1.out w1), hK _ ?_⟩; clear hK K; simp only [Act.put, List.setIfInBounds_toArray, List.set_cons_zero, List.set_cons_succ])
  refine wpX_nil ?_
  intro u2 hb2
  change wpList _ _ _ [_] _ _
  have hbel2 := Below.then hbel1 hb2
  go_wp2
  go_ret
  exact ⟨rfl, hbel2⟩
set_option maxHeartbeats 1000000 in
set_option maxRecDepth 100000 in
theorem jwithin_any (F G : List UInt8) (hF : F.length = 32) (hG : G.length = 32) (w : World) :
    Calls Try.prog 36 #[.agg (fcs F).toArray, .agg (fcs G).toArray] w fun e w' => e = .returned (.bool (wit F G)) ∧ Below w.heap.size w w' := by
  have hf1 := (Blk.new w 28 (fcs F)).alloc (.cells (fcs G).toArray 28)
  have hg1 : Blk 28 ((w.alloc (.cells (fcs F).toArray 28)).alloc (.cells (fcs G).toArray 28)) (w.heap.size + 1) (fcs G) := by
    have := Blk.new (w.alloc (.cells (fcs F).toArray 28)) 28 (fcs G)
    simpa using this
  have hbel1 : Below w.heap.size w ((w.alloc (.cells (fcs F).toArray 28)).alloc (.cells (fcs G).toArray 28)) := ((Below.refl _ _).alloc (Nat.le_refl _) _).alloc (by simp) _
  have cf : ∀ n : Nat, n < 256 → ∀ x, Calls Try.prog 70 #[.agg (fcs F).toArray, .int .i64 (n : Int)] x fun e w' => e = .returned (.bool (fb F n)) ∧ Below x.heap.size x w' := fun n hn x => jhas_any F hF n hn x
  have cg : ∀ n : Nat, n < 256 → ∀ x, Calls Try.prog 70 #[.agg (fcs G).toArray, .int .i64 (n : Int)] x fun e w' => e = .returned (.bool (fb G n)) ∧ Below x.heap.size x w' := fun n hn x => jhas_any G hG n hn x
  have hgl := fcs_len hG
  have hfl := fcs_len hF
  obtain ⟨D, hD⟩ : ∃ D, D = fcs G := ⟨_, rfl⟩
  obtain ⟨E, hE⟩ : ∃ E, E = fcs F := ⟨_, rfl⟩
  simp only [← hD, ← hE] at hf1 hg1 hbel1 cf cg hgl hfl
  rw [← hD, ← hE]
  have Cf := Lib.hid cf
  have Cg := Lib.hid cg
  have Hgl := Lib.hid hgl
  have Hfl := Lib.hid hfl
  have HG := Lib.hid hG
  clear cf cg hgl hfl hD hE hF hG
  go_enter Try.func36, Try.ntmps36
  go_wp2
  go_loopw [6] (fun ix wr => ∃ N : Nat, N ≤ 256 ∧ ix = .int .i64 (N : Int) ∧ Hid (∀ m, m < N → fb F m = true → fb G m = true) ∧ Blk 28 wr w.heap.size E ∧ Blk 28 wr (w.heap.size + 1) D ∧ Below w.heap.size w wr) (fun ix _ => 256 - (intOf ix).toNat)
  case atStart => exact ⟨0, by omega, rfl, Lib.hid (fun m hm => by omega), hf1, hg1, hbel1⟩
  case round =>
    clear hf1 hg1 hbel1
    obtain ⟨N, hN, rfl, hall, hf, hg, hbel⟩ := hrel
    by_cases hlt : N < 256
    · have hNi : (N : Int) < 256 := by omega
      obtain ⟨bf, hbf⟩ : ∃ b, b = fb F N := ⟨_, rfl⟩
      obtain ⟨bg, hbg⟩ : ∃ b, b = fb G N := ⟨_, rfl⟩
      have cf := fun x => Cf.out N hlt x
      have cg := fun x => Cg.out N hlt x
      simp only [← hbf] at cf
      simp only [← hbg] at cg
      have Hbf := Lib.hid hbf
      have Hbg := Lib.hid hbg
      have cfN := Lib.hid cf
      have cgN := Lib.hid cg
      clear cf cg hbf hbg
      have h3 : bf = false ∨ (bf = true ∧ bg = true) ∨ (bf = true ∧ bg = false) := by cases bf <;> cases bg <;> simp
      have tok1 : True := trivial
      rcases h3 with rfl | ⟨rfl, rfl⟩ | ⟨rfl, rfl⟩
      all_goals
        go_wp2_with (first
          | (refine wpList_loadA (o := ⟨some 9, _, _, _, _, _⟩) (by rfl) 28 (.tmp 2) (by rfl) w.heap.size (by rfl) aggHash' hf Hfl.out ?_)
          | (go_at_call 70; have _t := tok1; (with_reducible refine (cfN.out _).mono ?_); rintro e w2 ⟨rfl, b2⟩; have hf2 := hf.kept b2; have hg2 := hg.kept b2; have hbel2 := Below.then hbel b2; clear tok1 _t hf hg hbel b2)
          | (refine wpList_loadW (o := ⟨some 13, _, _, _, _, _⟩) 28 (.tmp 3) (by rfl) (w.heap.size + 1) 0 (by rfl) aggHash' Hgl.out (Blk.all0 hg2) (by rfl) ?_)
          | (go_at_call 70; (with_reducible refine (cgN.out _).mono ?_); rintro e w3 ⟨rfl, b3⟩; replace hf2 := hf2.kept b3; replace hg2 := hg2.kept b3; replace hbel2 := Below.then hbel2 b3))
      · go_roundw
        case rel => exact ⟨N + 1, by omega, by go_num, Lib.hid (fun m hm h1 => by
          by_cases e : m = N
          · subst e; rw [← Hbf.out] at h1; simp at h1
          · exact hall.out m (by omega) h1), hf2, hg2, hbel2⟩
        case measure => simp [intOf]; omega
      · go_roundw
        case rel => exact ⟨N + 1, by omega, by go_num, Lib.hid (fun m hm h1 => by
          by_cases e : m = N
          · subst e; exact Hbg.out.symm
          · exact hall.out m (by omega) h1), hf2, hg2, hbel2⟩
        case measure => simp [intOf]; omega
      · go_ret
        exact ⟨ret_bool (wit_no N hlt Hbf.out.symm Hbg.out.symm).symm, hbel2⟩
    · obtain rfl : N = 256 := by omega
      have hyes := wit_yes HG.out hall.out
      have Hyes := Lib.hid hyes
      clear hyes
      go_wp2
      go_ret
      exact ⟨ret_bool Hyes.out.symm, hbel⟩
end Go.Proofs.Ytfedjbodcebdnaa
