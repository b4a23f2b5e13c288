/- ChainTurns: the walk. -/
import Derived.Test.YtfedjbodcebdnaaChain7
set_option linter.unusedSimpArgs false
set_option linter.unusedVariables false
namespace Go.Proofs.Ytfedjbodcebdnaa
open Go.RowKit
set_option maxHeartbeats 1000000 in
set_option maxRecDepth 100000 in
theorem chainTurns_walk (a b : Option Addr) (c d : Nat) (ls ms : List Hdr) (W : World) (h1 : RowOf hdc 204 W (.slice a ls.length c) ls) (h2 : RowOf hdc 204 W (.slice b ms.length d) ms) (hB1 : ls.length * 232 ≤ 140737488355328) (hB2 : ms.length * 232 ≤ 140737488355328) :
    Calls Try.prog 3 #[.slice a ls.length c, .slice b ms.length d] W fun e w' => e = .returned (.bool true) ∧ Below W.heap.size W w' := by
  obtain ⟨s, hs⟩ : ∃ s, s = shn ls ms := ⟨_, rfl⟩
  have hle := shn_le ls ms
  rw [← hs] at hle
  have cu := fun w1 (hb : Below W.heap.size W w1) => ushared_any a b ls.length ms.length c d ls ms rfl rfl w1 (h1.below hb) (h2.below hb)
  have cs := fun w1 (hb : Below W.heap.size W w1) => shared_any a b ls.length ms.length c d ls ms rfl rfl w1 (h1.below hb) (h2.below hb)
  have ct := fun w1 (hb : Below W.heap.size W w1) => turn_any a b ls.length ms.length c d ls ms rfl rfl w1 (h1.below hb) (h2.below hb) hB1 hB2 s hs
  rw [← hs] at cu cs
  obtain ⟨b', d', s2, r2⟩ := RowOf.from elHdr h2 s hle.2 (s : Int) rfl
  have hsm := h1.small
  have hsm2 := h2.small
  unfold maxLen at hsm hsm2
  have cm := fun (v : Value) (a1 : Option Addr) (c1 : Nat) w1 (hb : Below W.heap.size W w1) (hv : RowOf hdc 204 w1 (.slice a1 (ms.length - s) c1) (ms.drop s)) => same_any a1 b' (ms.length - s) (ms.length - s) c1 d' (ms.drop s) (ms.drop s) (by rw [List.length_drop]) (by rw [List.length_drop]) w1 hv (r2.below hb)
  rw [show decide (ms.drop s = ms.drop s) = true from decide_eq_true rfl] at cm
  have hl1 : (ls.drop s).reverse.length = ls.length - s := by rw [List.length_reverse, List.length_drop]
  have hl2 : (ms.drop s).length = ms.length - s := by rw [List.length_drop]
  have hat : ∀ k x, (ls.drop s).reverse[k]? = some x → k < ls.length - s → ls[ls.length - 1 - k]? = some x := by
    intro k x hx hk
    rw [List.getElem?_reverse (by rw [List.length_drop]; exact hk), List.length_drop, List.getElem?_drop] at hx
    rw [← hx]
    congr 1
    omega
  have hs1 : ∀ k, k < ls.length → ∃ x, ls[k]? = some x := fun k hk => ⟨_, List.getElem?_eq_getElem hk⟩
  obtain ⟨n, hn⟩ : ∃ n, n = ls.length := ⟨_, rfl⟩
  obtain ⟨m, hm⟩ : ∃ m, m = ms.length := ⟨_, rfl⟩
  obtain ⟨RS, hRS⟩ : ∃ RS, RS = (ls.drop s).reverse := ⟨_, rfl⟩
  obtain ⟨MS, hMS⟩ : ∃ MS, MS = ms.drop s := ⟨_, rfl⟩
  simp only [← hn, ← hm, ← hRS, ← hMS] at *
  have Hl1 := Lib.hid hl1
  have Hl2 := Lib.hid hl2
  have Hat := Lib.hid hat
  have Cu := Lib.hid cu
  have Cs := Lib.hid cs
  have Ct := Lib.hid ct
  have Cm := Lib.hid cm
  have H1 := Lib.hid h1
  have Hs1 := Lib.hid hs1
  have hle1 := hle.1
  have hle2 := hle.2
  clear hl1 hl2 hat cu cs ct cm hRS hMS hs h1 h2 r2 hB1 hB2 hle hn hm hs1
  go_enter Try.func3, Try.ntmps3
  go_wp2_with (first
    | (go_at_call 14; (with_reducible refine (Cu.out _ (Below.refl _ _)).mono ?_); rintro e w1 ⟨rfl, b1⟩)
    | (go_at_call 15; (with_reducible refine (Ct.out _ b1).mono ?_); rintro e w2 ⟨vb, vo, rfl, rb, ro, b2⟩; have bel2 := Below.then b1 b2; obtain ⟨ab, cb, rfl, _⟩ := rb.form' (n - s) Hl1.out; obtain ⟨ao, co, rfl, _⟩ := ro.form' (m - s) Hl2.out)
    | (go_at_call 16; (with_reducible refine (Cs.out _ bel2).mono ?_); rintro e w3 ⟨rfl, b3⟩; have bel3 := Below.then bel2 b3)
    | (go_at_call 17; (with_reducible refine (Cm.out (.bool true) _ _ _ bel3 (ro.below b3)).mono ?_); rintro e w4 ⟨rfl, b4⟩; have bel4 := Below.then bel3 b4))
  have rb4 := (rb.below b3).below b4
  have hz4 := Nat.le_refl w4.heap.size
  clear rb ro b1 bel2 b2 b3 bel3 b4 s2
  have ens : (((n - s : Nat) : Int) != (n : Int) - (s : Int)) = false := by
    rw [show ((n - s : Nat) : Int) = (n : Int) - (s : Int) by omega]; simp
  rw [ens]
  clear ens
  go_loopw [8, 9, 43] (fun _ _ ix wr => ∃ k : Nat, k ≤ n - s ∧ ix = .int .i64 (k : Int) ∧ Below w4.heap.size w4 wr) (fun _ _ ix _ => n - s - (intOf ix).toNat)
  case atStart => exact ⟨0, by omega, rfl, Below.refl _ _⟩
  case round =>
    obtain ⟨k, hk, rfl, hbel⟩ := hrel
    by_cases hlt : k < n - s
    · have hki : (k : Int) < ((n - s : Nat) : Int) := by omega
      obtain ⟨x, hx⟩ : ∃ x, RS[k]? = some x := ⟨_, List.getElem?_eq_getElem (by rw [Hl1.out]; exact hlt)⟩
      have hy := Hat.out k x hx hlt
      have l1 := hdc_len x
      have g1 := guard_neH x x
      have q1 := run_neH x x
      rw [decide_eq_true rfl] at q1
      obtain ⟨b1, o1, rfl, hr1⟩ := RowOf.ats (rb4.below hbel) hx
      obtain ⟨b2, o2, rfl, hr2⟩ := RowOf.ats (H1.out.below (Below.then bel4 hbel)) hy
      have h1c : ∀ u ∈ hdc x, u.oneCell' = true := elHdr.h1 x
      generalize hdc x = C at *
      have G1 := Lib.hid g1
      have Q1 := Lib.hid q1
      have R1 := Lib.hid hr1
      have R2 := Lib.hid hr2
      have H1c := Lib.hid h1c
      clear g1 q1 hr1 hr2 h1c hx hy
      go_wp2_with (first
        | (refine wpList_loadW (o := ⟨some 47, _, _, _, _, _⟩) 33 (.tmp 46) (by rfl) b1 (o1 + k * 204) (by rfl) aggH l1 R1.out (by rfl) ?_)
        | ((with_reducible show wpList _ _ _ (⟨none, Op.store _ _ _, _, _, _, _⟩ :: _) _ _); refine wpList_storeA (o := ⟨none, _, _, _, _, _⟩) (by rfl) 33 (.tmp 9) (.tmp 47) (by rfl) wr.heap.size C (by rfl) (by rfl) aggH (Blk.newA wr 33 Try.zeroCells33) l1 (by kernel_rfl) H1c.out ((Below.refl wr.heap.size wr).alloc (Nat.le_refl _) _) (Nat.le_refl _) ?_; intro w5 hb5 bel5 hg5))
      have R5 : Hid (w5.rangeAt wr.heap.size 0 C) := Lib.hid (fun j v hv => by rw [Nat.zero_add, hb5.cell]; exact hv)
      have R6 := Lib.hid (World.rangeAt.below R2.out bel5)
      have bel6 := Below.then hbel bel5
      clear hg5
      refine wp_region_typed w5 9 (by kernel_rfl) (by kernel_rfl) (Below.refl _ _) ?_; simp only [List.take_succ_cons, List.take_zero, List.take_nil]
      (refine wpX_step (by rfl) (fun K hK => ?_); rw [if_pos (by rfl)]; refine ⟨_, fun u => const_loadm _ (.tmp 9) (by rfl) _ _ (by rfl) aggH l1 (rangeAt.ext R5.out u), hK _ ?_⟩; clear hK K; simp only [Act.put, List.setIfInBounds_toArray, List.set_cons_zero, List.set_cons_succ])
      iterate 6 (refine wpX_step (by rfl) (fun K hK => ?_); go_simp; first | (refine hK _ ?_; clear hK K) | (apply Exists.intro; refine ⟨fun _ => ?_, hK _ ?_⟩; fail; clear hK K))
      have ei : IntKind.i64.wrap (IntKind.i64.wrap ((n : Int) - 1) - (k : Int)) = ((n - 1 - k : Nat) : Int) := by
        rw [IntKind.wrap_i64, IntKind.wrap_i64]; omega
      have hij : n - 1 - k < n := by omega
      rw [ei]
      clear ei
      generalize n - 1 - k = j at *
      have hji : (j : Int) < (n : Int) := by omega
      (refine wpX_step (by rfl) (fun K hK => ?_); go_simp; first | (refine hK _ ?_; clear hK K) | (apply Exists.intro; refine ⟨fun _ => ?_, hK _ ?_⟩; fail; clear hK K))
      (refine wpX_step (by rfl) (fun K hK => ?_); rw [if_pos (by rfl)]; refine ⟨_, fun u => const_loadm _ (.tmp 55) (by rfl) _ _ (by rfl) aggH l1 (rangeAt.ext R6.out u), hK _ ?_⟩; clear hK K; simp only [Act.put, List.setIfInBounds_toArray, List.set_cons_zero, List.set_cons_succ])
      refine wpX_nil ?_
      intro u2 hb2
      have bel7 := Below.then bel6 hb2
      change wpList _ _ _ [_] _ _
      have g1 := G1.out
      have q1 := Q1.out
      go_wp2
      go_roundw
      case rel => exact ⟨k + 1, by omega, by go_num, bel7⟩
      case measure => simp [intOf]; omega
    · obtain rfl : k = n - s := by omega
      go_wp2
      go_ret
      exact ⟨rfl, Below.then bel4 hbel⟩
end Go.Proofs.Ytfedjbodcebdnaa
