/- The reference's way. -/
import Derived.Test.YtnhbfnegpjkojaaChk1
import Derived.Test.YtnhbfnegpjkojaaStr
set_option linter.unusedSimpArgs false
set_option linter.unusedVariables false
namespace Go.Proofs.Ytnhbfnegpjkojaa
open Go.RowKit
set_option maxHeartbeats 1000000 in
set_option maxRecDepth 100000 in
theorem way_any (kd : Int) (pa : Option Addr) (pn pc : Nat) (p q : List UInt8) (hpn : p.length = pn) (hq : q.length ≤ 1000000000) (w : World) (hp : Bytes w (.slice pa pn pc) p) (hk : kd = 0 ∨ kd = 1 ∨ kd = 2 ∨ kd = 3) :
    Calls Try.prog 159 #[.int .i64 kd, .slice pa pn pc, .string ⟨q.toArray⟩] w fun e w' => e = .returned (.tuple #[.int .i64 (wayP kd p q).1, .string ⟨(wayP kd p q).2.1.toArray⟩, .bool (wayP kd p q).2.2]) ∧ Below w.heap.size w w' := by
  have c1 := fun u : Ext w => run_str (P := Try.prog) (src := 22) (dst := 9) elU8.ht (by kernel_rfl) (by kernel_rfl) (hp.below u.bel)
  have hsz := str_size q
  rcases hk with rfl | rfl | rfl | rfl
  · go_enter Try.func159, Try.ntmps159
    go_wp2_with fail
    go_ret3
    exact ⟨rfl, Below.refl _ _⟩
  · have hw : wayP 1 p q = (-1, [], p == q) := rfl
    rw [hw]
    go_enter Try.func159, Try.ntmps159
    go_wp2_with fail
    refine wp_region_typed w 7 (by kernel_rfl) (by kernel_rfl) (Below.refl _ _) ?_; simp only [List.take_succ_cons, List.take_zero, List.take_nil]
    iterate 7 (refine wpX_step (by rfl) (fun K hK => ?_); go_simp; first | (refine hK _ ?_; clear hK K) | (apply Exists.intro; refine ⟨fun _ => ?_, hK _ ?_⟩; fail; clear hK K))
    refine wpX_nil ?_
    intro u2 hb2
    simp only [List.reverse_nil, forallRel]
    change wpList _ _ _ [] _ _
    go_wp2_with fail
    go_ret3
    exact ⟨rfl, hb2⟩
  · have hw : wayP 2 p q = if p.length ≤ q.length ∧ q.take p.length = p then (0, q.drop p.length, false) else (-1, [], false) := rfl
    rw [hw]
    by_cases hle : p.length ≤ q.length
    · have r1 := str_to (P := Try.prog) (t := 9) (by kernel_rfl) q pn (pn : Int) rfl (by omega)
      have r2 := str_from (P := Try.prog) (t := 9) (by kernel_rfl) q pn (pn : Int) rfl (by omega)
      have hle2 : (pn : Int) ≤ (q.length : Int) := by omega
      by_cases he : q.take p.length = p
      · rw [if_pos ⟨hle, he⟩]
        rw [hpn] at he ⊢
        have Hle := Lib.hid hle
        clear hle
        go_enter Try.func159, Try.ntmps159
        go_wp2_with fail
        refine wp_region_typed w 14 (by kernel_rfl) (by kernel_rfl) (Below.refl _ _) ?_; simp only [List.take_succ_cons, List.take_zero, List.take_nil]
        iterate 14 (refine wpX_step (by rfl) (fun K hK => ?_); go_simp; first | (refine hK _ ?_; clear hK K) | (apply Exists.intro; refine ⟨fun _ => ?_, hK _ ?_⟩; fail; clear hK K))
        refine wpX_nil ?_
        intro u2 hb2
        simp only [List.reverse_nil, forallRel]
        change wpList _ _ _ [] _ _
        go_wp2_with fail
        refine wp_region_typed u2 7 (by kernel_rfl) (by kernel_rfl) (Below.refl _ _) ?_; simp only [List.take_succ_cons, List.take_zero, List.take_nil]
        iterate 7 (refine wpX_step (by rfl) (fun K hK => ?_); go_simp; first | (refine hK _ ?_; clear hK K) | (apply Exists.intro; refine ⟨fun _ => ?_, hK _ ?_⟩; fail; clear hK K))
        refine wpX_nil ?_
        intro u3 hb3
        simp only [List.reverse_nil, forallRel]
        change wpList _ _ _ [] _ _
        go_wp2_with fail
        go_ret3
        exact ⟨rfl, Below.then hb2 hb3⟩
      · rw [if_neg (fun e => he e.2)]
        rw [hpn] at he
        have he2 : (q.take pn == p) = false := by rw [beq_eq_false_iff_ne]; exact he
        have Hle := Lib.hid hle
        clear hle he
        go_enter Try.func159, Try.ntmps159
        go_wp2_with fail
        refine wp_region_typed w 14 (by kernel_rfl) (by kernel_rfl) (Below.refl _ _) ?_; simp only [List.take_succ_cons, List.take_zero, List.take_nil]
        iterate 14 (refine wpX_step (by rfl) (fun K hK => ?_); go_simp; first | (refine hK _ ?_; clear hK K) | (apply Exists.intro; refine ⟨fun _ => ?_, hK _ ?_⟩; fail; clear hK K))
        refine wpX_nil ?_
        intro u2 hb2
        simp only [List.reverse_nil, forallRel]
        change wpList _ _ _ [] _ _
        go_wp2_with fail
        go_ret3
        exact ⟨rfl, hb2⟩
    · have hle2 : ¬ (pn : Int) ≤ (q.length : Int) := by omega
      rw [if_neg (fun e => hle e.1)]
      rw [hpn] at hle
      clear hle2
      go_enter Try.func159, Try.ntmps159
      go_wp2_with fail
      refine wp_region_typed w 14 (by kernel_rfl) (by kernel_rfl) (Below.refl _ _) ?_; simp only [List.take_succ_cons, List.take_zero, List.take_nil]
      iterate 14 (refine wpX_step (by rfl) (fun K hK => ?_); go_simp; first | (refine hK _ ?_; clear hK K) | (apply Exists.intro; refine ⟨fun _ => ?_, hK _ ?_⟩; fail; clear hK K))
      refine wpX_nil ?_
      intro u2 hb2
      simp only [List.reverse_nil, forallRel]
      change wpList _ _ _ [] _ _
      go_wp2_with fail
      go_ret3
      exact ⟨rfl, hb2⟩
  · cases q with
    | nil =>
      go_enter Try.func159, Try.ntmps159
      go_wp2_with fail
      go_ret3
      exact ⟨rfl, Below.refl _ _⟩
    | cons x q =>
      have r1 := str_at (P := Try.prog) (t := 9) (by kernel_rfl) (x :: q) 0 0 rfl x rfl
      have r2 := str_from (P := Try.prog) (t := 9) (by kernel_rfl) (x :: q) 1 1 rfl (by simp)
      have hwx : IntKind.i64.wrap (x.toNat : Int) = (x.toNat : Int) := IntWalk.i64_in _ (by have := x.toNat_lt; omega)
      have hw : wayP 3 p (x :: q) = ((x.toNat : Int), q, false) := rfl
      rw [hw]
      change ∀ k w, (Instr.slice 9 (.string ⟨(x :: q).toArray⟩) (some (.int k 1)) none none).run Try.prog w = .ok (.string ⟨q.toArray⟩) w at r2
      go_enter Try.func159, Try.ntmps159
      go_wp2_with fail
      refine wp_region_typed w 8 (by kernel_rfl) (by kernel_rfl) (Below.refl _ _) ?_; simp only [List.take_succ_cons, List.take_zero, List.take_nil]
      iterate 8 (refine wpX_step (by rfl) (fun K hK => ?_); go_simp; first | (refine hK _ ?_; clear hK K) | (apply Exists.intro; refine ⟨fun _ => ?_, hK _ ?_⟩; fail; clear hK K))
      refine wpX_nil ?_
      intro u2 hb2
      simp only [List.reverse_nil, forallRel]
      change wpList _ _ _ [] _ _
      go_wp2_with fail
      go_ret3
      exact ⟨rfl, hb2⟩
end Go.Proofs.Ytnhbfnegpjkojaa
