/- The reference's SameWorld at like rows. | The walk of the law WorldSets. -/
import Derived.Test.YtakhaanenlblmaaWs22
/- (Ws23) The reference's SameWorld at like rows. -/
set_option linter.unusedSimpArgs false
set_option linter.unusedVariables false
namespace Go.Proofs.Ytakhaanenlblmaa
open Go.RowKit
set_option maxHeartbeats 4000000 in
set_option maxRecDepth 100000 in
theorem sameworld_like (v1 v2 : Value) (L M : List Hol) (hk : L.map Hol.key = M.map Hol.key) (hm : ∀ h ∈ L, h.a.m < W256) (w : World) (h1 : RowOf hols 15 w v1 L) (h2 : RowOf hols 15 w v2 M) (i1 : ∀ h ∈ L, h.a.In w) (i2 : ∀ h ∈ M, h.a.In w) :
    Calls Try.prog 27 #[v1, v2] w fun e w' => e = .returned (.bool true) ∧ Below w.heap.size w w' := by
  have hlen : L.length = M.length := by have := congrArg List.length hk; simpa using this
  obtain ⟨n, hn⟩ : ∃ n, n = L.length := ⟨_, rfl⟩
  obtain ⟨a, c, rfl, _⟩ := h1.form' n hn.symm
  obtain ⟨b, d, rfl, _⟩ := h2.form' n (by rw [hn, hlen])
  have hsm := h1.small
  unfold maxLen at hsm
  rw [← hn] at hsm
  have hat : ∀ (i : Nat) (hi : i < L.length) (hj : i < M.length), L[i].key = M[i].key := fun i hi hj => by
    have := congrArg (fun l : List _ => l[i]?) hk
    simp only [List.getElem?_map, List.getElem?_eq_getElem hi, List.getElem?_eq_getElem hj, Option.map_some, Option.some.injEq] at this
    exact this
  have hb2 : ((n : Int) == (n : Int)) = true := beq_self_eq_true _
  have Hat := Lib.hid hat
  have Hn := Lib.hid hn.symm
  have Hn2 := Lib.hid (show M.length = n from by rw [hn, hlen])
  have Hm := Lib.hid hm
  have I1 := Lib.hid i1
  have I2 := Lib.hid i2
  clear hat hn hlen hm i1 i2 hk
  go_enter Try.func27, Try.ntmps27
  go_wp2_with fail
  go_loopw [13] (fun ix wr => ∃ k : Nat, k ≤ n ∧ ix = .int .i64 (k : Int) ∧ Below w.heap.size w wr) (fun ix _ => n - (intOf ix).toNat)
  case atStart => exact ⟨0, by omega, rfl, Below.refl _ _⟩
  case round =>
    obtain ⟨k, hkn, rfl, hbr⟩ := hrel
    by_cases hlt : k < n
    · have hki : (k : Int) < (n : Int) := by omega
      have hil : k < L.length := by rw [Hn.out]; exact hlt
      have hjl : k < M.length := by rw [Hn2.out]; exact hlt
      obtain ⟨ba, oa, rfl, hr1⟩ := RowOf.range hols_len (h1.below hbr) k hil
      obtain ⟨bb, ob, rfl, hr2⟩ := RowOf.range hols_len (h2.below hbr) k hjl
      have hp1 := (I1.out _ (List.getElem_mem hil)).below hbr
      have hp2 := (I2.out _ (List.getElem_mem hjl)).below hbr
      have hmm := Hm.out _ (List.getElem_mem hil)
      have hkk := Hat.out k hil hjl
      generalize L[k] = p at *
      generalize M[k] = q at *
      have hf : p.f = q.f := congrArg Prod.fst hkk
      have hv : p.a.val = q.a.val := congrArg Prod.snd hkk
      have g1 := guard_ne_a p.f q.f
      have q1 := run_ne_a p.f q.f p.l q.l
      rw [show (!(p.f == q.f)) = false from by simp [hf]] at q1
      obtain ⟨Z1, hZ1⟩ : ∃ Z, Z = by8 p.f := ⟨_, rfl⟩
      obtain ⟨Z2, hZ2⟩ : ∃ Z, Z = by8 q.f := ⟨_, rfl⟩
      obtain ⟨V1, hV1⟩ : ∃ Z, Z = accs p.a := ⟨_, rfl⟩
      obtain ⟨V2, hV2⟩ : ∃ Z, Z = accs q.a := ⟨_, rfl⟩
      have lZ1 : Z1.length = 8 := by rw [hZ1, by8_len, p.l]
      have lZ2 : Z2.length = 8 := by rw [hZ2, by8_len, q.l]
      have lV1 : V1.length = 7 := by rw [hV1]; rfl
      have lV2 : V2.length = 7 := by rw [hV2]; rfl
      have rz1 : wr.rangeAt ba (oa + k * 15) Z1 := fun j v hv => hr1 j v (by rw [hols_addr p j (by have := (List.getElem?_eq_some_iff.1 hv).1; omega), ← hZ1]; exact hv)
      have rz2 : wr.rangeAt bb (ob + k * 15) Z2 := fun j v hv => hr2 j v (by rw [hols_addr q j (by have := (List.getElem?_eq_some_iff.1 hv).1; omega), ← hZ2]; exact hv)
      have rv1 : wr.rangeAt ba (oa + k * 15 + 8) V1 := fun j v hv => by
        have := hr1 (8 + j) v (by rw [hols_from, ← hV1]; exact hv)
        rw [show oa + k * 15 + 8 + j = oa + k * 15 + (8 + j) from by omega]; exact this
      have rv2 : wr.rangeAt bb (ob + k * 15 + 8) V2 := fun j v hv => by
        have := hr2 (8 + j) v (by rw [hols_from, ← hV2]; exact hv)
        rw [show ob + k * 15 + 8 + j = ob + k * 15 + (8 + j) from by omega]; exact this
      have cs : ∀ u : Ext wr, Calls Try.prog 26 #[.agg V1.toArray, .agg V2.toArray] u.val fun e w' => e = .returned (.bool true) ∧ Below u.val.heap.size u.val w' := fun u => by rw [hV1, hV2]; exact sameacc_like p.a q.a hv hmm u.val (hp1.below u.bel) (hp2.below u.bel)
      rw [← hZ1, ← hZ2] at g1 q1
      have G1 := Lib.hid g1
      have Q1 := Lib.hid q1
      have A1 := Lib.hid rz1
      have A2 := Lib.hid rz2
      have B1 := Lib.hid rv1
      have B2 := Lib.hid rv2
      have Cs := Lib.hid cs
      clear g1 q1 rz1 rz2 rv1 rv2 cs hZ1 hZ2 hV1 hV2 hf hv hkk hmm hp1 hp2 hr1 hr2 hil hjl
      go_upto_region 6 with fail
      refine wp_region_typed wr 25 (by kernel_rfl) (by kernel_rfl) (Below.refl _ _) ?_; simp only [List.take_succ_cons, List.take_zero, List.take_nil]
      iterate 4 (refine wpX_step (by rfl) (fun K hK => ?_); go_simp; first | (refine hK _ ?_; clear hK K) | (apply Exists.intro; refine ⟨fun _ => ?_, hK _ ?_⟩; fail; clear hK K))
      (refine wpX_step (by rfl) (fun K hK => ?_); rw [if_pos (by rfl)]; refine ⟨_, fun u => const_loadm _ (.tmp 19) (by rfl) _ _ (by rfl) aggAddr lZ1 (rangeAt.ext A1.out u), hK _ ?_⟩; clear hK K; simp only [Act.put, List.setIfInBounds_toArray, List.set_cons_zero, List.set_cons_succ])
      iterate 4 (refine wpX_step (by rfl) (fun K hK => ?_); go_simp; first | (refine hK _ ?_; clear hK K) | (apply Exists.intro; refine ⟨fun _ => ?_, hK _ ?_⟩; fail; clear hK K))
      (refine wpX_step (by rfl) (fun K hK => ?_); rw [if_pos (by rfl)]; refine ⟨_, fun u => const_loadm _ (.tmp 24) (by rfl) _ _ (by rfl) aggAddr lZ2 (rangeAt.ext A2.out u), hK _ ?_⟩; clear hK K; simp only [Act.put, List.setIfInBounds_toArray, List.set_cons_zero, List.set_cons_succ])
      (refine wpX_step (by rfl) (fun K hK => ?_); rw [if_pos (by rfl)]; refine ⟨_, fun u => const_neq _ _ _ _ (by rfl) (by rfl) (by rfl) (fun o1 o2 w1 => G1.out o1 o2 w1) (fun w1 => Q1.out w1), hK _ ?_⟩; clear hK K; simp only [Act.put, List.setIfInBounds_toArray, List.set_cons_zero, List.set_cons_succ])
      iterate 5 (refine wpX_step (by rfl) (fun K hK => ?_); go_simp; first | (refine hK _ ?_; clear hK K) | (apply Exists.intro; refine ⟨fun _ => ?_, hK _ ?_⟩; fail; clear hK K))
      (refine wpX_step (by rfl) (fun K hK => ?_); rw [if_pos (by rfl)]; refine ⟨_, fun u => const_loadm _ (.tmp 31) (by rfl) _ _ (by rfl) aggAcc lV1 (rangeAt.ext B1.out u), hK _ ?_⟩; clear hK K; simp only [Act.put, List.setIfInBounds_toArray, List.set_cons_zero, List.set_cons_succ])
      iterate 4 (refine wpX_step (by rfl) (fun K hK => ?_); go_simp; first | (refine hK _ ?_; clear hK K) | (apply Exists.intro; refine ⟨fun _ => ?_, hK _ ?_⟩; fail; clear hK K))
      (refine wpX_step (by rfl) (fun K hK => ?_); rw [if_pos (by rfl)]; refine ⟨_, fun u => const_loadm _ (.tmp 36) (by rfl) _ _ (by rfl) aggAcc lV2 (rangeAt.ext B2.out u), hK _ ?_⟩; clear hK K; simp only [Act.put, List.setIfInBounds_toArray, List.set_cons_zero, List.set_cons_succ])
      (refine wpX_step (by rfl) (fun K hK => ?_); go_simp; first | (refine hK _ ?_; clear hK K) | (apply Exists.intro; refine ⟨fun _ => ?_, hK _ ?_⟩; exact Cs.out _; clear hK K))
      iterate 2 (refine wpX_step (by rfl) (fun K hK => ?_); go_simp; first | (refine hK _ ?_; clear hK K) | (apply Exists.intro; refine ⟨fun _ => ?_, hK _ ?_⟩; fail; clear hK K))
      refine wpX_nil ?_
      intro y5 b5
      change forallRel y5 [] _ _
      simp only [forallRel, List.drop_succ_cons, List.drop_zero, List.drop_nil]
      go_wp2_with fail
      go_roundw
      case rel => exact ⟨k + 1, by omega, by go_num, Below.then hbr b5⟩
      case measure => simp [intOf]; omega
    · obtain rfl : k = n := by omega
      have hki : ¬ (k : Int) < (k : Int) := by omega
      go_wp2_with fail
      go_ret
      exact ⟨rfl, hbr⟩
end Go.Proofs.Ytakhaanenlblmaa
/- (Ws24) The walk of the law WorldSets. -/
namespace Go.Proofs.Ytakhaanenlblmaa
open Go.RowKit
theorem wset_any (a : Option Addr) (n c : Nat) (l : List Hol) (hn : l.length = n) (hk : ∀ h ∈ l, h.a.Ok) (hz : ∀ h ∈ l, h.a.Sz) (A : List UInt8) (hA : A.length = 8) (q : Acc) (hqk : q.Ok) (hqz : q.Sz) (hb : (n + 1) * 96 ≤ 140737488355328) (w : World) (h : RowOf hols 15 w (.slice a n c) l) (hi : ∀ h ∈ l, h.a.In w) (hqi : q.In w) :
    Calls Try.prog 22 #[.slice a n c, .agg (by8 A).toArray, .agg (accs q).toArray] w (SetPost l A q w) := by
  by_cases hbad : rightB l = false ∨ slotsB q.s = false ∨ 1024 < q.c.length
  · exact wset_bad a n c l hn hk hz A hA q hqk hqz hb w h hi hqi hbad
  · simp only [not_or, Bool.not_eq_false] at hbad
    exact wset_does a n c l hn hk hz A hA q hqk hqz hb w h hi hqi hbad.1 hbad.2.1 hbad.2.2
theorem oset_any (a : Option Addr) (n c : Nat) (l : List Hol) (hn : l.length = n) (hk : ∀ h ∈ l, h.a.Ok) (hz : ∀ h ∈ l, h.a.Sz) (A : List UInt8) (hA : A.length = 8) (q : Acc) (hqk : q.Ok) (hqz : q.Sz) (hb : (n + 3) * 96 ≤ 140737488355328) (w : World) (h : RowOf hols 15 w (.slice a n c) l) (hi : ∀ h ∈ l, h.a.In w) (hqi : q.In w) :
    Calls Try.prog 23 #[.slice a n c, .agg (by8 A).toArray, .agg (accs q).toArray] w (SetPost l A q w) := by
  by_cases hbad : rightB l = false ∨ slotsB q.s = false ∨ 1024 < q.c.length
  · exact oset_bad a n c l hn hk hz A hA q hqk hqz (by omega) w h hi hqi hbad
  · simp only [not_or, Bool.not_eq_false] at hbad
    exact oset_does a n c l hn hk hz A hA q hqk hqz hb w h hi hqi hbad.1 hbad.2.1 hbad.2.2
end Go.Proofs.Ytakhaanenlblmaa
