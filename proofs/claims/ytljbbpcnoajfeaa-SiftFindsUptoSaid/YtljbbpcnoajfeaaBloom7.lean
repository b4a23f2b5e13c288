/- bloom.Within, the reference's JWithin. -/
import Derived.Test.YtljbbpcnoajfeaaBloom6
set_option linter.unusedSimpArgs false
set_option linter.unusedVariables false
namespace Go.Proofs.Ytljbbpcnoajfeaa
open Go.RowKit
/-- none of F's bits that G has not -/
def wit (F G : List UInt8) : Bool := mkF (orB F G) 256 == G
theorem wit_no {F G : List UInt8} (n : Nat) (hn : n < 256) (h1 : fb F n = true) (h2 : fb G n = false) : wit F G = false := by
  unfold wit
  rw [beq_eq_false_iff_ne]
  intro e
  have h3 := fb_mkF (orB F G) 256 (by omega) n
  rw [e, h2] at h3
  unfold orB at h3
  rw [h1] at h3
  simp [hn] at h3
theorem wit_yes {F G : List UInt8} (hG : G.length = 32) (h : ∀ n, n < 256 → fb F n = true → fb G n = true) : wit F G = true := by
  unfold wit
  rw [beq_iff_eq]
  refine (mkF_is hG (fun m hm => ?_)).symm
  unfold orB
  cases hf : fb F m with
  | true => rw [h m hm hf]; rfl
  | false => simp
theorem run_eq_f (L M : List UInt8) (hl : L.length = 32) (hm : M.length = 32) (w1 : World) : (binOp .eql 43 (.agg (fcs L).toArray) (.agg (fcs M).toArray)).run Try.prog w1 = .ok (.bool (L == M)) w1 := by
  have h2 : ∀ K : List UInt8, (K.map fun x => (x.toNat : Int)).map (Value.int .u8) = fcs K := fun K => by unfold fcs; rw [List.map_map]; rfl
  have := run_eqA (P := Try.prog) w1 Try.underlying43 Try.underlying5 (by kernel_rfl) (L.map fun x => (x.toNat : Int)) (M.map fun x => (x.toNat : Int)) (by rw [List.length_map, hl]) (by rw [List.length_map, hm])
  rw [h2, h2] at this
  rw [this]
  have e : ((L.map fun x => (x.toNat : Int)) == (M.map fun x => (x.toNat : Int))) = (L == M) := by
    rw [Bool.eq_iff_iff]
    simp only [beq_iff_eq]
    constructor
    · intro e
      have inj : ∀ a b : UInt8, (a.toNat : Int) = (b.toNat : Int) → a = b := fun a b h => UInt8.toNat_inj.1 (by omega)
      apply List.ext_getElem?
      intro i
      have h1 := congrArg (fun l : List Int => l[i]?) e
      simp only [List.getElem?_map] at h1
      cases h3 : L[i]? with
      | none => rw [h3] at h1; cases h4 : M[i]? with
        | none => rfl
        | some y => rw [h4] at h1; simp at h1
      | some x => rw [h3] at h1; cases h4 : M[i]? with
        | none => rw [h4] at h1; simp at h1
        | some y => rw [h4] at h1; simp only [Option.map_some, Option.some.injEq] at h1; rw [inj x y h1]
    · intro e; rw [e]
  rw [e]
theorem guard_f (L M : List UInt8) (o1 o2 : Operand) (w1 : World) : (eqGuard .eql 43 o1 o2 (.agg (fcs L).toArray) (.agg (fcs M).toArray)).run Try.prog w1 = .ok () w1 := by
  exact run_eqGuard_agg (P := Try.prog) (w := w1) .eql 43 o1 o2 _ _ (by kernel_rfl)
set_option maxHeartbeats 1000000 in
set_option maxRecDepth 100000 in
theorem within_any (F G : List UInt8) (hF : F.length = 32) (hG : G.length = 32) (w : World) :
    Calls Try.prog 100 #[.agg (fcs F).toArray, .agg (fcs G).toArray] w fun e w' => e = .returned (.bool (wit F G)) ∧ Below w.heap.size w w' := by
  have hf1 := (Blk.new w 43 (fcs F)).alloc (.cells (fcs G).toArray 43)
  have hg1 : Blk 43 ((w.alloc (.cells (fcs F).toArray 43)).alloc (.cells (fcs G).toArray 43)) (w.heap.size + 1) (fcs G) := by
    have := Blk.new (w.alloc (.cells (fcs F).toArray 43)) 43 (fcs G)
    simpa using this
  have hbel1 : Below w.heap.size w ((w.alloc (.cells (fcs F).toArray 43)).alloc (.cells (fcs G).toArray 43)) := ((Below.refl _ _).alloc (Nat.le_refl _) _).alloc (by simp) _
  have cj := fun x => bjoin_any F G hF hG x
  have g1 := guard_f (mkF (orB F G) 256) G
  have q1 := run_eq_f (mkF (orB F G) 256) G (mkF_len _ _) hG
  have hgl := fcs_len hG
  have hfl := fcs_len hF
  obtain ⟨D, hD⟩ : ∃ D, D = fcs G := ⟨_, rfl⟩
  obtain ⟨E, hE⟩ : ∃ E, E = fcs F := ⟨_, rfl⟩
  obtain ⟨J, hJ⟩ : ∃ J, J = fcs (mkF (orB F G) 256) := ⟨_, rfl⟩
  simp only [← hD, ← hE, ← hJ] at hf1 hg1 hbel1 cj hgl hfl g1 q1
  rw [show (mkF (orB F G) 256 == G) = wit F G from rfl] at q1
  rw [← hD, ← hE]
  obtain ⟨w1, hw1⟩ : ∃ w1, w1 = (w.alloc (.cells E.toArray 43)).alloc (.cells D.toArray 43) := ⟨_, rfl⟩
  rw [← hw1] at hf1 hg1 hbel1
  have Hw1 := Lib.hid hw1
  have Cj := Lib.hid cj
  have G1 := Lib.hid g1
  have Q1 := Lib.hid q1
  have R1 := Lib.hid (Blk.all0 hf1)
  have R2 := Lib.hid (Blk.all0 hg1)
  have Hgl := Lib.hid hgl
  have Hfl := Lib.hid hfl
  clear hw1 cj g1 q1 hgl hfl hD hE hJ hf1 hg1
  go_enter Try.func100, Try.ntmps100
  go_wp2_with fail
  rw [← Hw1.out]
  refine wp_region_typed w1 5 (by kernel_rfl) (by kernel_rfl) (Below.refl _ _) ?_; simp only [List.take_succ_cons, List.take_zero, List.take_nil]
  (refine wpX_step (by rfl) (fun K hK => ?_); rw [if_pos (by rfl)]; refine ⟨_, fun u => const_loadm _ (.tmp 2) (by rfl) _ _ (by rfl) aggHash' Hfl.out (rangeAt.ext R1.out u), hK _ ?_⟩; clear hK K; simp only [Act.put, List.setIfInBounds_toArray, List.set_cons_zero, List.set_cons_succ])
  (refine wpX_step (by rfl) (fun K hK => ?_); rw [if_pos (by rfl)]; refine ⟨_, fun u => const_loadm _ (.tmp 3) (by rfl) _ _ (by rfl) aggHash' Hgl.out (rangeAt.ext R2.out u), hK _ ?_⟩; clear hK K; simp only [Act.put, List.setIfInBounds_toArray, List.set_cons_zero, List.set_cons_succ])
  (refine wpX_step (by rfl) (fun K hK => ?_); go_simp; first | (refine hK _ ?_; clear hK K) | (apply Exists.intro; refine ⟨fun _ => ?_, hK _ ?_⟩; exact Cj.out _; clear hK K))
  (refine wpX_step (by rfl) (fun K hK => ?_); rw [if_pos (by rfl)]; refine ⟨_, fun u => const_loadm _ (.tmp 3) (by rfl) _ _ (by rfl) aggHash' Hgl.out (rangeAt.ext R2.out u), hK _ ?_⟩; clear hK K; simp only [Act.put, List.setIfInBounds_toArray, List.set_cons_zero, List.set_cons_succ])
  (refine wpX_step (by rfl) (fun K hK => ?_); rw [if_pos (by rfl)]; refine ⟨_, fun u => const_eql _ _ _ _ (by rfl) (by rfl) (by rfl) (fun o1 o2 w1 => G1.out o1 o2 w1) (fun w1 => Q1.out w1), hK _ ?_⟩; clear hK K; simp only [Act.put, List.setIfInBounds_toArray, List.set_cons_zero, List.set_cons_succ])
  refine wpX_nil ?_
  intro u2 hb2
  change wpList _ _ _ [_] _ _
  have hbel2 := Below.then hbel1 hb2
  go_wp2
  go_ret
  exact ⟨rfl, hbel2⟩
end Go.Proofs.Ytljbbpcnoajfeaa
