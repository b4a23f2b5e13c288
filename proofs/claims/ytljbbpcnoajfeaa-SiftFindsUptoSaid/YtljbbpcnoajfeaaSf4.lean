/- sift.may. -/
import Derived.Test.YtljbbpcnoajfeaaSf2
import Derived.Test.YtljbbpcnoajfeaaBloom8
set_option linter.unusedSimpArgs false
set_option linter.unusedVariables false
namespace Go.Proofs.Ytljbbpcnoajfeaa
open Go.RowKit
theorem row_by (e : TypeId) (n : Nat) (L : List UInt8) (hn : L.length = n) (hs : n ≤ 1000) (g : Nat) (w : World) (h : Blk e w g (by8 L)) : Bytes w (.slice (some ⟨g, 0, none⟩) n n) L :=
  h.row L n n (fun _ => rfl) hn (fun j u hu => by rw [flat_b8] at hu; exact hu) (Nat.le_refl _) (by unfold maxLen; omega)
/-- may what a filter lets through be behind it? -/
def maB (f : Flt) (F : List UInt8) : Bool := (decide (f.A.length = 0) || f.A.any fun a => mayB F a.b) && f.T.all fun t => mayB F (wb t)
theorem enters_my (a b : Value) (w : World) : (callFunc 69 #[a, b]).run Try.prog w = .ok (.enter 69 #[a, b]) w := by kernel_rfl
set_option maxHeartbeats 1000000 in
set_option maxRecDepth 100000 in
theorem my_any (F : List UInt8) (hF : F.length = 32) (x : Ad8) (HB : Nat) (w : World) (hp : Blk 43 w HB (fcs F)) :
    Calls Try.prog 69 #[.agg (adc x).toArray, .pointer (some ⟨HB, 0, none⟩)] w fun e w' => e = .returned (.bool (mayB F x.b)) ∧ Below w.heap.size w w' := by
  obtain ⟨w1, hw1⟩ : ∃ w1, w1 = w.alloc (.cells (adc x).toArray 46) := ⟨_, rfl⟩
  have z1 : Blk 46 w1 w.heap.size (by8 x.b) := by rw [hw1]; exact Blk.new w _ _
  have hbel : Below w.heap.size w w1 := by rw [hw1]; exact (Below.refl _ _).alloc (Nat.le_refl _) _
  have r1 := (hp.kept hbel).all0
  have hfl := fcs_len hF
  have co := fun (u : World) (hu : Below w1.heap.size w1 u) => may_any F hF (some ⟨w.heap.size, 0, none⟩) 8 8 x.b u (row_by _ 8 x.b x.l (by omega) _ u (z1.kept hu))
  obtain ⟨q, hq⟩ : ∃ q, q = mayB F x.b := ⟨_, rfl⟩
  simp only [← hq] at co ⊢
  obtain ⟨E, hE⟩ : ∃ E, E = fcs F := ⟨_, rfl⟩
  simp only [← hE] at co r1 hfl
  obtain ⟨AC, hAC⟩ : ∃ C, C = adc x := ⟨_, rfl⟩
  rw [← hAC] at hw1 ⊢
  have HWe := Lib.hid hw1
  have Co := Lib.hid co
  have R1 := Lib.hid r1
  have Hfl := Lib.hid hfl
  clear hw1 co r1 hfl hq hE hAC hp z1
  go_enter Try.func69, Try.ntmps69
  go_upto_region 1 with fail
  rw [← HWe.out]
  refine wp_region_typed w1 3 (by kernel_rfl) (by kernel_rfl) (Below.refl _ _) ?_; simp only [List.take_succ_cons, List.take_zero, List.take_nil]
  (refine wpX_step (by rfl) (fun K hK => ?_); rw [if_pos (by rfl)]; refine ⟨_, fun u => const_loadm _ (.tmp 1) (by rfl) _ _ (by rfl) aggHash' Hfl.out (rangeAt.ext R1.out u), hK _ ?_⟩; clear hK K; simp only [Act.put, List.setIfInBounds_toArray, List.set_cons_zero, List.set_cons_succ])
  (refine wpX_step (by rfl) (fun K hK => ?_); go_simp; first | (refine hK _ ?_; clear hK K) | (apply Exists.intro; refine ⟨fun _ => ?_, hK _ ?_⟩; fail; clear hK K))
  refine wpX_eq (.bool q) (fun w2 hw2 => ?_) ?_
  · simp only [relOf, List.filter_nil, List.filter_cons, forallRel]
    refine ⟨rfl, ?_⟩
    go_simp
    refine (Co.out w2 hw2).mono ?_
    rintro e w8 ⟨rfl, b8⟩
    exact ⟨_, rfl, rfl, b8⟩
  refine wpX_nil ?_
  intro u2 hb2
  change wpList _ _ _ [_] _ _
  have hbel2 := Below.then hbel hb2
  go_wp2
  go_ret
  exact ⟨rfl, hbel2⟩
def IxfPost (F : List UInt8) (l : List Ad8) (w : World) (e : Ending) (w' : World) : Prop := ∃ i : Int, e = .returned (.int .i64 i) ∧ decide (0 ≤ i) = (l.any fun a => mayB F a.b) ∧ Below w.heap.size w w'
set_option maxHeartbeats 2000000 in
set_option maxRecDepth 100000 in
theorem idxF_any (F : List UInt8) (hF : F.length = 32) (HB : Nat) (a : Option Addr) (n c : Nat) (l : List Ad8) (hn : l.length = n) (w : World) (h : RowOf adc 8 w (.slice a n c) l) (hp : Blk 43 w HB (fcs F)) (hN : n ≤ 140737488355328) :
    Calls Try.prog 102 #[.slice a n c, .func (.func 69) #[] #[.pointer (some ⟨HB, 0, none⟩)]] w (IxfPost F l w) := by
  have hent := enters_my
  have cc := fun (r : Ad8) (u : World) (hu : Below w.heap.size w u) => my_any F hF r HB u (hp.kept hu)
  have Cc := Lib.hid cc
  have Hn := Lib.hid hn
  have H := Lib.hid h
  clear cc hn hp h
  go_enter Try.func102, Try.ntmps102
  go_wp2_with fail
  have Q0 : Below w.heap.size w w := Below.refl _ _
  go_loopw [8] (fun ix wr => ∃ k : Nat, k ≤ n ∧ ix = .int .i64 (k : Int) ∧ Below w.heap.size w wr ∧ Hid (∀ j (hj : j < l.length), j < k → mayB F l[j].b = false)) (fun ix _ => n - (intOf ix).toNat)
  case atStart => exact ⟨0, by omega, rfl, Q0, Lib.hid (fun j hj h => by omega)⟩
  case round =>
    clear Q0
    obtain ⟨k, hk, rfl, hb, hno⟩ := hrel
    by_cases hlt : k < n
    · have hki : (k : Int) < (n : Int) := by omega
      have hwi : IntKind.i64.wrap ((k : Int) + 1) = ((k + 1 : Nat) : Int) := by rw [IntWalk.i64_in _ (by omega)]; omega
      have hil : k < l.length := by rw [Hn.out]; exact hlt
      obtain ⟨b, off, rfl, hr⟩ := RowOf.range adc_len (H.out.below hb) k hil
      have hca := Cc.out l[k] wr hb
      have hXl := adc_len l[k]
      obtain ⟨q, hq⟩ : ∃ q, q = mayB F l[k].b := ⟨_, rfl⟩
      rw [← hq] at hca
      obtain ⟨XC, hXC⟩ : ∃ C, C = adc l[k] := ⟨_, rfl⟩
      rw [← hXC] at hr hca hXl
      have Hca := Lib.hid hca
      have HR := Lib.hid hr
      have HXl := Lib.hid hXl
      have Hq := Lib.hid hq
      clear hca hr hXl hXC hq
      cases q with
      | true =>
        go_wp2_with (first
          | ((with_reducible show wpList _ _ _ (⟨some 15, _, _, _, _, _⟩ :: _) _ _); refine wpList_loadW (o := ⟨some 15, _, _, _, _, _⟩) 46 (.tmp 14) (by rfl) b (off + k * 8) (by rfl) aggAd HXl.out HR.out (by rfl) ?_)
          | (go_at_call 69; (with_reducible refine Hca.out.mono ?_); rintro e w2 ⟨rfl, b2⟩; have bb2 := Below.then hb b2))
        go_ret
        exact ⟨(k : Int), rfl, by rw [List.any_eq_true.2 ⟨l[k], List.getElem_mem hil, Hq.out.symm⟩]; exact decide_eq_true (by omega), bb2⟩
      | false =>
        go_wp2_with (first
          | ((with_reducible show wpList _ _ _ (⟨some 15, _, _, _, _, _⟩ :: _) _ _); refine wpList_loadW (o := ⟨some 15, _, _, _, _, _⟩) 46 (.tmp 14) (by rfl) b (off + k * 8) (by rfl) aggAd HXl.out HR.out (by rfl) ?_)
          | (go_at_call 69; (with_reducible refine Hca.out.mono ?_); rintro e w2 ⟨rfl, b2⟩; have bb2 := Below.then hb b2))
        go_roundw
        case rel => exact ⟨k + 1, by omega, by go_num, bb2, Lib.hid (fun j hj h => by
          rcases Nat.lt_succ_iff_lt_or_eq.1 h with h | rfl
          · exact hno.out j hj h
          · exact Hq.out.symm)⟩
        case measure => simp [intOf]; omega
    · obtain rfl : k = n := by omega
      have hf : (l.any fun a => mayB F a.b) = false := by
        rw [List.any_eq_false]
        intro x hx
        obtain ⟨j, hj, rfl⟩ := List.mem_iff_getElem.1 hx
        rw [hno.out j hj (by rw [← Hn.out]; exact hj)]
        simp
      go_wp2_with fail
      go_ret
      exact ⟨-1, rfl, by rw [hf]; rfl, hb⟩
set_option maxHeartbeats 1000000 in
set_option maxRecDepth 100000 in
theorem containsF_any (F : List UInt8) (hF : F.length = 32) (HB : Nat) (a : Option Addr) (n c : Nat) (l : List Ad8) (hn : l.length = n) (w : World) (h : RowOf adc 8 w (.slice a n c) l) (hp : Blk 43 w HB (fcs F)) (hN : n ≤ 140737488355328) :
    Calls Try.prog 68 #[.slice a n c, .func (.func 69) #[] #[.pointer (some ⟨HB, 0, none⟩)]] w fun e w' => e = .returned (.bool (l.any fun a => mayB F a.b)) ∧ Below w.heap.size w w' := by
  have ci := idxF_any F hF HB a n c l hn w h hp hN
  obtain ⟨Q, hQ⟩ : ∃ Q, Q = (l.any fun a => mayB F a.b) := ⟨_, rfl⟩
  unfold IxfPost at ci
  rw [← hQ] at ci ⊢
  have Ci := Lib.hid ci
  clear ci hQ h hn hp
  go_enter Try.func68, Try.ntmps68
  go_wp2_with (go_at_call 102; (with_reducible refine Ci.out.mono ?_); rintro e w2 ⟨i, rfl, hi, b2⟩; subst hi)
  go_ret
  exact ⟨rfl, b2⟩
end Go.Proofs.Ytljbbpcnoajfeaa
