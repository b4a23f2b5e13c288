/- The reference's GRight. -/
import Derived.Test.YtnhbfnegpjkojaaGrw6
import Derived.Test.YtnhbfnegpjkojaaSame2
set_option linter.unusedSimpArgs false
set_option linter.unusedVariables false
namespace Go.Proofs.Ytnhbfnegpjkojaa
open Go.RowKit
def fineB (l : List Rt) : Bool := l.all fun r => decide (fineP 0 r)
theorem fineB_take (l : List Rt) (k : Nat) (hk : k < l.length) (h : fineB (l.take k) = true) (hf : fineP 0 l[k]) : fineB (l.take (k + 1)) = true := by
  unfold fineB at h ⊢
  rw [List.take_succ_eq_append_getElem hk, List.all_append, h]
  simp [hf]
theorem fineB_not (l : List Rt) (k : Nat) (hk : k < l.length) (hf : ¬ fineP 0 l[k]) : fineB l = false := by
  unfold fineB
  rw [List.all_eq_false]
  exact ⟨l[k], List.getElem_mem hk, by simpa using hf⟩
def grightP (t : Nd) : Bool := match rts t with | none => false | some l => fineB l && sameP t (grw 65 l)
theorem gright_rgt (t : Nd) : grightP t = rgt 0 t := by
  rw [rgt_iff t 65 (Nat.le_refl _)]
  rfl
theorem fineP_iff (r : Rt) (n m : Nat) (hn : r.1.length = n) (hm : r.2.length = m) : fineP 0 r ↔ (n % 2 = 0 ∧ n ≤ 64 ∧ 0 < m ∧ m ≤ 1024) := by
  unfold fineP
  rw [hn, hm, Nat.zero_add]
set_option maxHeartbeats 4000000 in
set_option maxRecDepth 100000 in
theorem gright_any (t : Nd) (w : World) (hI : IsNd w t) (hb : bulkN t ≤ 1048576) : Calls Try.prog 54 #[.agg (ndcells t).toArray] w fun e w' => e = .returned (.bool (grightP t)) ∧ Below w.heap.size w w' := by
  obtain ⟨R, hR⟩ : ∃ R, R = grightP t := ⟨_, rfl⟩
  rw [← hR]
  have HR := Lib.hid hR
  obtain ⟨w1, hw1⟩ : ∃ w1, w1 = w.alloc (.cells (ndcells t).toArray 25) := ⟨_, rfl⟩
  have hz : Blk 25 w1 w.heap.size (ndcells t) := by rw [hw1]; exact Blk.new w _ _
  have hbel : Below w.heap.size w w1 := by rw [hw1]; exact (Below.refl _ _).alloc (Nat.le_refl _) _
  have hKl := ndcells_len t
  have cr := routes_any 1000000000 (Nat.le_refl _) (SizeOf.sizeOf t) t (Nat.le_refl _) [] w1 (hI.kept hbel) (by simp; omega)
  rw [show (⟨([] : List UInt8).toArray⟩ : ByteArray) = ⟨#[]⟩ from rfl] at cr
  have hlen := fun l (h : rts t = some l) => rts_len h
  have hord := fun l (h : rts t = some l) => ord_rts (SizeOf.sizeOf t) t (Nat.le_refl _) l h
  have csame := fun (s : Nd) (u : World) (hu : Below w.heap.size w u) (hs : IsNd u s) => same_any 1000000000 (Nat.le_refl _) (SizeOf.sizeOf t) t (Nat.le_refl _) s u (hI.kept hu) hs (by omega)
  obtain ⟨K, hK⟩ : ∃ K, K = ndcells t := ⟨_, rfl⟩
  simp only [← hK] at cr csame hz hKl hw1 ⊢
  have r1 := hz.all0
  have Hw1 := Lib.hid hw1
  have Hord := Lib.hid hord
  have Hlen := Lib.hid hlen
  have Csame := Lib.hid csame
  have HK := Lib.hid hK
  clear hw1 hR hlen hord csame hK
  cases hr : rts t with
  | none =>
    have hRf : R = false := by rw [HR.out]; unfold grightP; rw [hr]
    subst hRf
    rw [hr] at cr
    have C1 : Calls Try.prog 61 #[.agg K.toArray, .string ⟨#[]⟩] w1 (fun e w' => Below w1.heap.size w1 w' ∧ e = .returned (.tuple #[.slice none 0 0, .bool false])) := cr
    have C2 := Lib.hid C1
    clear C1 cr hr
    go_enter Try.func54, Try.ntmps54
    go_wp2_with (first
      | (refine wpList_loadW (o := ⟨some 8, _, _, _, _, _⟩) 25 (.tmp 1) (by rfl) w.heap.size 0 (by rfl) aggNode hKl (by rw [← Hw1.out]; exact r1) (by rfl) ?_)
      | (go_at_call 61; rw [← Hw1.out]; (with_reducible refine C2.out.mono ?_); rintro e w2 ⟨b2, rfl⟩; have bb2 := Below.then hbel b2))
    go_loopw [14] (fun ix wr => ix = .int .i64 0 ∧ Below w.heap.size w wr) (fun ix _ => 0)
    case atStart => exact ⟨rfl, bb2⟩
    case round =>
      obtain ⟨rfl, hbr⟩ := hrel
      go_wp2_with fail
      refine wp_region_typed wr 7 (by kernel_rfl) (by kernel_rfl) (Below.refl _ _) ?_; simp only [List.take_succ_cons, List.take_zero, List.take_nil]
      iterate 7 (refine wpX_step (by rfl) (fun K hK => ?_); go_simp; first | (refine hK _ ?_; clear hK K) | (apply Exists.intro; refine ⟨fun _ => ?_, hK _ ?_⟩; fail; clear hK K))
      refine wpX_nil ?_
      intro u2 hb2
      simp only [List.reverse_nil, forallRel]
      change wpList _ _ _ [_] _ _
      go_wp2_with fail
      go_ret
      exact ⟨rfl, Below.then hbr hb2⟩
  | some l =>
    have hll := Hlen.out l hr
    have hor := Hord.out l hr
    have hR2 : R = (fineB l && sameP t (grw 65 l)) := by rw [HR.out]; unfold grightP; rw [hr]
    rw [hr] at cr
    have C1 : Calls Try.prog 61 #[.agg K.toArray, .string ⟨#[]⟩] w1 (fun e w' => Below w1.heap.size w1 w' ∧ ∃ (a : Option Addr) (n c : Nat), e = .returned (.tuple #[.slice a n c, .bool true]) ∧ RowOf rcells 2 w' (.slice a n c) (pre [] l)) := cr
    rw [pre_nil] at C1
    have C2 := Lib.hid C1
    have HR2 := Lib.hid hR2
    have hL6 : l.length ≤ 2000000 := by omega
    have HL6 := Lib.hid hL6
    have Hor := Lib.hid hor
    clear C1 cr hr HR hR2 hll hL6 hor
    go_enter Try.func54, Try.ntmps54
    go_wp2_with (first
      | (refine wpList_loadW (o := ⟨some 8, _, _, _, _, _⟩) 25 (.tmp 1) (by rfl) w.heap.size 0 (by rfl) aggNode hKl (by rw [← Hw1.out]; exact r1) (by rfl) ?_)
      | (go_at_call 61; rw [← Hw1.out]; (with_reducible refine C2.out.mono ?_); rintro e w2 ⟨b2, a, n, c, rfl, hrow⟩; have bb2 := Below.then hbel b2; have hz2 := hz.kept b2))
    have hnl := hrow.fits.1
    have hn6 : n ≤ 2000000 := by have := HL6.out; omega
    have Hnl := Lib.hid hnl
    clear hnl
    go_loopw [14] (fun ix wr => ∃ k : Nat, k ≤ n ∧ ix = .int .i64 (k : Int) ∧ fineB (l.take k) = true ∧ Below w2.heap.size w2 wr) (fun ix _ => n - (intOf ix).toNat)
    case atStart => exact ⟨0, by omega, rfl, rfl, Below.refl _ _⟩
    case round =>
      obtain ⟨k, hkk, rfl, hall, hwr⟩ := hrel
      have hbr := Below.then bb2 hwr
      by_cases hlt : k < n
      · have hki : (k : Int) < (n : Int) := by omega
        have hkl : k < l.length := by rw [← Hnl.out]; exact hlt
        obtain ⟨b, off, rfl, hrr⟩ := RowOf.range (f := rcells) (size := 2) (fun _ => rfl) (hrow.below hwr) k hkl
        have hst := fineB_take l k hkl hall
        have hno := fineB_not l k hkl
        obtain ⟨y, hy⟩ : ∃ y, y = l[k] := ⟨_, rfl⟩
        rw [← hy] at hrr hst hno
        obtain ⟨y1, y2⟩ := y
        have hfi := fineP_iff (y1, y2) y1.length y2.length rfl rfl
        obtain ⟨n1, hn1⟩ : ∃ n, n = y1.length := ⟨_, rfl⟩
        obtain ⟨m1, hm1⟩ : ∃ n, n = y2.length := ⟨_, rfl⟩
        rw [← hn1, ← hm1] at hfi
        have hr2 : wr.rangeAt b (off + k * 2) [.string ⟨y1.toArray⟩, .string ⟨y2.toArray⟩] := hrr
        obtain ⟨S1, hS1⟩ : ∃ S : ByteArray, S = ⟨y1.toArray⟩ := ⟨_, rfl⟩
        obtain ⟨S2, hS2⟩ : ∃ S : ByteArray, S = ⟨y2.toArray⟩ := ⟨_, rfl⟩
        rw [← hS1, ← hS2] at hr2
        have z1 : S1.size = n1 := by rw [hS1, hn1]; exact str_size y1
        have z2 : S2.size = m1 := by rw [hS2, hm1]; exact str_size y2
        have n0 : ∀ (g : Nat) (u : World), Blk 116 u g [.string S1, .string S2] → u.cell? ⟨g, 0, none⟩ = some (.string S1) ∧ u.cell? ⟨g, 1, none⟩ = some (.string S2) := fun g u hb => ⟨(hb.cell 0).trans rfl, (hb.cell 1).trans rfl⟩
        have N0 := Lib.hid n0
        have bA : Below wr.heap.size wr (wr.alloc (.cells #[.string ByteArray.empty, .string ByteArray.empty] 116)) := (Below.refl _ _).alloc (Nat.le_refl _) _
        have hm : (n1 : Int).tmod 2 = ((n1 % 2 : Nat) : Int) := by rw [Int.tmod_eq_emod_of_nonneg (by omega)]; omega
        have Hst := Lib.hid hst
        have Hno := Lib.hid hno
        have Hfi := Lib.hid hfi
        have Hr2 := Lib.hid hr2
        clear n0 hy hrr hS1 hS2 hn1 hm1 hst hno hfi hr2 hall hlt
        by_cases f1 : n1 % 2 = 0
        · rw [f1] at hm
          by_cases f2 : n1 ≤ 64
          · have g2 : ¬ (64 : Int) < (n1 : Int) := by omega
            by_cases f3 : 0 < m1
            · have g3 : ((m1 : Int) == 0) = false := by rw [beq_eq_false_iff_ne]; omega
              by_cases f4 : m1 ≤ 1024
              · have g4 : ¬ (1024 : Int) < (m1 : Int) := by omega
                have hnx := Hst.out (Hfi.out.2 ⟨f1, f2, f3, f4⟩)
                have Hnx := Lib.hid hnx
                clear f1 f2 f3 f4 hnx
                go_wp2_with (first
                              | (refine wpList_loadW (o := ⟨some 17, _, _, _, _, _⟩) 116 (.tmp 16) (by rfl) b (off + k * 2) (by rfl) aggRoute (by rfl) Hr2.out (by rfl) ?_)
                              | ((with_reducible show wpList _ _ _ (⟨none, Op.store _ _ (Operand.tmp 17), _, _, _, _⟩ :: _) _ _); refine wpList_storeA (o := ⟨none, _, _, _, _, _⟩) (by rfl) 116 (.tmp 6) (.tmp 17) (by rfl) wr.heap.size [.string S1, .string S2] (by rfl) (by rfl) aggRoute (Blk.new wr 116 [.string ByteArray.empty, .string ByteArray.empty]) (by rfl) (by rfl) (by intro u hu; simp at hu; rcases hu with rfl | rfl <;> rfl) bA (Nat.le_refl _) ?_; intro w5 h7 b5 _; obtain ⟨i0, i1⟩ := N0.out _ _ h7; have bb5 := Below.then hbr b5))
                go_roundw
                case rel => exact ⟨k + 1, by omega, by go_num, Hnx.out, Below.then hwr b5⟩
                case measure => simp [intOf]; omega
              · have g4 : (1024 : Int) < (m1 : Int) := by omega
                have hRf : R = false := by rw [HR2.out, Hno.out (fun h => by have := Hfi.out.1 h; omega)]; rfl
                subst hRf
                go_wp2_with (first
                              | (refine wpList_loadW (o := ⟨some 17, _, _, _, _, _⟩) 116 (.tmp 16) (by rfl) b (off + k * 2) (by rfl) aggRoute (by rfl) Hr2.out (by rfl) ?_)
                              | ((with_reducible show wpList _ _ _ (⟨none, Op.store _ _ (Operand.tmp 17), _, _, _, _⟩ :: _) _ _); refine wpList_storeA (o := ⟨none, _, _, _, _, _⟩) (by rfl) 116 (.tmp 6) (.tmp 17) (by rfl) wr.heap.size [.string S1, .string S2] (by rfl) (by rfl) aggRoute (Blk.new wr 116 [.string ByteArray.empty, .string ByteArray.empty]) (by rfl) (by rfl) (by intro u hu; simp at hu; rcases hu with rfl | rfl <;> rfl) bA (Nat.le_refl _) ?_; intro w5 h7 b5 _; obtain ⟨i0, i1⟩ := N0.out _ _ h7; have bb5 := Below.then hbr b5))
                go_ret
                exact ⟨rfl, bb5⟩
            · have g3 : ((m1 : Int) == 0) = true := by rw [beq_iff_eq]; omega
              have hRf : R = false := by rw [HR2.out, Hno.out (fun h => by have := Hfi.out.1 h; omega)]; rfl
              subst hRf
              go_wp2_with (first
                              | (refine wpList_loadW (o := ⟨some 17, _, _, _, _, _⟩) 116 (.tmp 16) (by rfl) b (off + k * 2) (by rfl) aggRoute (by rfl) Hr2.out (by rfl) ?_)
                              | ((with_reducible show wpList _ _ _ (⟨none, Op.store _ _ (Operand.tmp 17), _, _, _, _⟩ :: _) _ _); refine wpList_storeA (o := ⟨none, _, _, _, _, _⟩) (by rfl) 116 (.tmp 6) (.tmp 17) (by rfl) wr.heap.size [.string S1, .string S2] (by rfl) (by rfl) aggRoute (Blk.new wr 116 [.string ByteArray.empty, .string ByteArray.empty]) (by rfl) (by rfl) (by intro u hu; simp at hu; rcases hu with rfl | rfl <;> rfl) bA (Nat.le_refl _) ?_; intro w5 h7 b5 _; obtain ⟨i0, i1⟩ := N0.out _ _ h7; have bb5 := Below.then hbr b5))
              go_ret
              exact ⟨rfl, bb5⟩
          · have g2 : (64 : Int) < (n1 : Int) := by omega
            have hRf : R = false := by rw [HR2.out, Hno.out (fun h => by have := Hfi.out.1 h; omega)]; rfl
            subst hRf
            go_wp2_with (first
                              | (refine wpList_loadW (o := ⟨some 17, _, _, _, _, _⟩) 116 (.tmp 16) (by rfl) b (off + k * 2) (by rfl) aggRoute (by rfl) Hr2.out (by rfl) ?_)
                              | ((with_reducible show wpList _ _ _ (⟨none, Op.store _ _ (Operand.tmp 17), _, _, _, _⟩ :: _) _ _); refine wpList_storeA (o := ⟨none, _, _, _, _, _⟩) (by rfl) 116 (.tmp 6) (.tmp 17) (by rfl) wr.heap.size [.string S1, .string S2] (by rfl) (by rfl) aggRoute (Blk.new wr 116 [.string ByteArray.empty, .string ByteArray.empty]) (by rfl) (by rfl) (by intro u hu; simp at hu; rcases hu with rfl | rfl <;> rfl) bA (Nat.le_refl _) ?_; intro w5 h7 b5 _; obtain ⟨i0, i1⟩ := N0.out _ _ h7; have bb5 := Below.then hbr b5))
            go_ret
            exact ⟨rfl, bb5⟩
        · have f11 : n1 % 2 = 1 := by omega
          rw [f11] at hm
          have hRf : R = false := by rw [HR2.out, Hno.out (fun h => by have := Hfi.out.1 h; omega)]; rfl
          subst hRf
          go_wp2_with (first
                              | (refine wpList_loadW (o := ⟨some 17, _, _, _, _, _⟩) 116 (.tmp 16) (by rfl) b (off + k * 2) (by rfl) aggRoute (by rfl) Hr2.out (by rfl) ?_)
                              | ((with_reducible show wpList _ _ _ (⟨none, Op.store _ _ (Operand.tmp 17), _, _, _, _⟩ :: _) _ _); refine wpList_storeA (o := ⟨none, _, _, _, _, _⟩) (by rfl) 116 (.tmp 6) (.tmp 17) (by rfl) wr.heap.size [.string S1, .string S2] (by rfl) (by rfl) aggRoute (Blk.new wr 116 [.string ByteArray.empty, .string ByteArray.empty]) (by rfl) (by rfl) (by intro u hu; simp at hu; rcases hu with rfl | rfl <;> rfl) bA (Nat.le_refl _) ?_; intro w5 h7 b5 _; obtain ⟨i0, i1⟩ := N0.out _ _ h7; have bb5 := Below.then hbr b5))
          go_ret
          exact ⟨rfl, bb5⟩
      · obtain rfl : k = n := by omega
        have htk : l.take k = l := by rw [Hnl.out, List.take_length]
        rw [htk] at hall
        have hR3 : R = sameP t (grw 65 l) := by rw [HR2.out, hall, Bool.true_and]
        have hfi : ∀ r ∈ l, fineP 0 r := fun r hr => by unfold fineB at hall; rw [List.all_eq_true] at hall; exact of_decide_eq_true (hall r hr)
        have hsm : Sml l := fun r hr => by obtain ⟨_, h1, _, h2⟩ := hfi r hr; exact ⟨by omega, by omega⟩
        have hok := ord_ok 65 l Hor.out (fun r hr => by obtain ⟨_, h1, _, h2⟩ := hfi r hr; omega)
        have hrw := hrow.below hwr
        have cg := fun (u : World) (hu : Below wr.heap.size wr u) => grown_any 65 l a k c u Hnl.out.symm hn6 hsm hok (hrw.below hu)
        have hz3 := hz2.kept hwr
        have Cg := Lib.hid cg
        have HKl := Lib.hid hKl
        have Hz3 := Lib.hid hz3
        have Hbr := Lib.hid hbr
        have HR3 := Lib.hid hR3
        clear htk hall hfi hsm hok hrw cg hz3 hlt hR3
        go_wp2_with fail
        refine wp_region_typed wr 7 (by kernel_rfl) (by kernel_rfl) (Below.refl _ _) ?_; simp only [List.take_succ_cons, List.take_zero, List.take_nil]
        iterate 2 (refine wpX_step (by rfl) (fun K hK => ?_); go_simp; first | (refine hK _ ?_; clear hK K) | (apply Exists.intro; refine ⟨fun _ => ?_, hK _ ?_⟩; fail; clear hK K))
        (refine wpX_step (by rfl) (fun K hK => ?_); rw [if_pos (by rfl)]; refine ⟨_, fun u => const_loadm _ (.tmp 1) (by rfl) _ _ (by rfl) aggNode HKl.out (rangeAt.ext (Blk.all0 Hz3.out) u), hK _ ?_⟩; clear hK K; simp only [Act.put, List.setIfInBounds_toArray, List.set_cons_zero, List.set_cons_succ])
        (refine wpX_step (by rfl) (fun K hK => ?_); go_simp; first | (refine hK _ ?_; clear hK K) | (apply Exists.intro; refine ⟨fun _ => ?_, hK _ ?_⟩; fail; clear hK K))
        refine wpX_rel 46 (NdT 0 (grw 65 l)) rfl (of_decide_eq_true rfl) (NdT.mono _ _) (fun w6 hw6 => ?_) ?_
        · change forallRel w6 [] _ _
          simp only [forallRel]
          refine ⟨rfl, ?_⟩
          go_simp
          refine (Cg.out w6 hw6).mono ?_
          rintro e w7 ⟨s, rfl, os, es, b7⟩
          exact ⟨_, rfl, ⟨s, rfl, os.lower (Nat.zero_le _), es⟩, b7⟩
        refine wpX_eq (.bool R) (fun w6 hw6 => ?_) ?_
        · change forallRel w6 [(46, _)] _ _
          rintro v46 ⟨s, rfl, os, es⟩
          have cs := Csame.out s w6 (Below.then Hbr.out hw6) os.is
          rw [es, ← HR3.out] at cs
          simp only [forallRel]
          refine ⟨rfl, ?_⟩
          go_simp
          exact cs.mono fun e w' q => ⟨_, q.1, rfl, q.2⟩
        (refine wpX_step (by rfl) (fun K hK => ?_); go_simp; first | (refine hK _ ?_; clear hK K) | (apply Exists.intro; refine ⟨fun _ => ?_, hK _ ?_⟩; fail; clear hK K))
        refine wpX_nil ?_
        intro u2 hb2 v46 _
        change wpList _ _ _ [_] _ _
        simp only [Act.put, List.setIfInBounds_toArray, List.set_cons_zero, List.set_cons_succ]
        go_wp2_with fail
        go_ret
        exact ⟨rfl, Below.then hbr hb2⟩
end Go.Proofs.Ytnhbfnegpjkojaa
