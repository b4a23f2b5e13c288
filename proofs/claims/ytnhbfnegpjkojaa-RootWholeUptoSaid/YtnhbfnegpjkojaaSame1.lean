/- The reference's SameNode. -/
import Derived.Test.YtnhbfnegpjkojaaGrw1
set_option linter.unusedSimpArgs false
set_option linter.unusedVariables false
namespace Go.Proofs.Ytnhbfnegpjkojaa
open Go.RowKit
def SmC (N : Nat) (k : Nd) : Prop := ∀ (s : Nd) (u : World), IsNd u k → IsNd u s → bulkN k ≤ N → Calls Try.prog 116 #[.agg (ndcells k).toArray, .agg (ndcells s).toArray] u fun e w' => e = .returned (.bool (sameP k (erN s))) ∧ Below u.heap.size u w'
theorem sameL_step : ∀ (ks ks' : List Nd) (i : Nat) (hi : i < ks.length) (hi' : i < ks'.length), (∀ j (hj : j < i), sameP (ks[j]'(by omega)) (erN (ks'[j]'(by omega))) = true) → sameP ks[i] (erN ks'[i]) = false → sameL ks (erNL ks') = false := by
  intro ks ks' i hi hi' _ hf
  rw [← Bool.not_eq_true, sameL_iff]
  rintro ⟨_, h⟩
  rw [h i ks[i] (erN ks'[i]) (List.getElem?_eq_getElem hi) (by rw [erNL_map, List.getElem?_map, List.getElem?_eq_getElem hi']; rfl)] at hf
  simp at hf
theorem sameL_all (ks ks' : List Nd) (h : ks.length = ks'.length) (ha : ∀ j (hj : j < ks.length), sameP ks[j] (erN (ks'[j]'(by omega))) = true) : sameL ks (erNL ks') = true := by
  rw [sameL_iff]
  refine ⟨by rw [erNL_map, List.length_map, h], fun i k k' hk hk' => ?_⟩
  obtain ⟨h1, rfl⟩ := List.getElem?_eq_some_iff.1 hk
  rw [erNL_map, List.getElem?_map, List.getElem?_eq_getElem (by omega)] at hk'
  simp only [Option.map_some, Option.some.injEq] at hk'
  rw [← hk']
  exact ha i h1
theorem enters_same (a b : Value) (w : World) : (callFunc 116 #[a, b]).run Try.prog w = .ok (.enter 116 #[a, b]) w := by
  have hf := Try.func116
  have h1 : Try.f116.name ≠ "runtime.NumGoroutine" := by decide
  have hb : Try.f116.body = some _ := rfl
  simp [callFunc, hf, h1, hb]
set_option maxHeartbeats 1000000 in
set_option maxRecDepth 100000 in
theorem eqf_any (N : Nat) (ka ka' : Option Addr) (kn kc kn' kc' : Nat) (ks ks' : List Nd) (hkn : ks.length = kn) (hkn' : ks'.length = kn') (hN : bulkNL ks ≤ N) (hs : kn ≤ 1000000000) (w : World) (hk : RowOf ndcells 4 w (.slice ka kn kc) ks) (hk' : RowOf ndcells 4 w (.slice ka' kn' kc') ks')
    (hks : ∀ k ∈ ks, IsNd w k) (hks' : ∀ k ∈ ks', IsNd w k) (ih : ∀ k ∈ ks, SmC N k) :
    Calls Try.prog 164 #[.slice ka kn kc, .slice ka' kn' kc', .func (.func 116) #[] #[]] w fun e w' => e = .returned (.bool (sameL ks (erNL ks'))) ∧ Below w.heap.size w w' := by
  obtain ⟨R, hR⟩ : ∃ R, R = sameL ks (erNL ks') := ⟨_, rfl⟩
  rw [← hR]
  have hent := enters_same
  have HR := Lib.hid hR
  have Hkn := Lib.hid hkn
  have Hkn' := Lib.hid hkn'
  have HN := Lib.hid hN
  by_cases hl : kn = kn'
  · subst hl
    clear hR hkn hkn' hN
    go_enter Try.func164, Try.ntmps164
    go_wp2_with fail
    go_loopw [17] (fun ix wr => ∃ i : Nat, i ≤ kn ∧ ix = .int .i64 (i : Int) ∧ Below w.heap.size w wr ∧ ∀ j (h1 : j < ks.length) (h2 : j < ks'.length), j < i → sameP ks[j] (erN ks'[j]) = true) (fun ix _ => kn - (intOf ix).toNat)
    case atStart => exact ⟨0, by omega, rfl, Below.refl _ _, fun j _ _ h => by omega⟩
    case round =>
      obtain ⟨i, hii, rfl, hbr, hall⟩ := hrel
      by_cases hlt : i < kn
      · have hki : (i : Int) < (kn : Int) := by omega
        have hil : i < ks.length := by rw [Hkn.out]; exact hlt
        have hil' : i < ks'.length := by rw [Hkn'.out]; exact hlt
        obtain ⟨b1, o1, rfl, r1⟩ := RowOf.range ndcells_len (hk.below hbr) i hil
        obtain ⟨b2, o2, rfl, r2⟩ := RowOf.range ndcells_len (hk'.below hbr) i hil'
        have I1 := (hks _ (List.getElem_mem hil)).kept hbr
        have I2 := (hks' _ (List.getElem_mem hil')).kept hbr
        have hbk := bulkN_mem (List.getElem_mem hil)
        have hst := sameL_step ks ks' i hil hil' (fun j hj => hall j (by omega) (by omega) hj)
        have hnx : sameP ks[i] (erN ks'[i]) = true → ∀ j (h1 : j < ks.length) (h2 : j < ks'.length), j < i + 1 → sameP ks[j] (erN ks'[j]) = true := by
          intro he j h1 h2 hj
          by_cases hji : j = i
          · subst hji; exact he
          · exact hall j h1 h2 (by omega)
        have c1 := fun (u : World) (hu : Below wr.heap.size wr u) => ih _ (List.getElem_mem hil) ks'[i] u (I1.kept hu) (I2.kept hu) (by have := HN.out; omega)
        obtain ⟨q, hq⟩ : ∃ q, q = sameP ks[i] (erN ks'[i]) := ⟨_, rfl⟩
        simp only [← hq] at c1 hst hnx
        have l1 := ndcells_len ks[i]
        have l2 := ndcells_len ks'[i]
        have n1 := I1.one
        have n2 := I2.one
        obtain ⟨K1, hK1⟩ : ∃ K, K = ndcells ks[i] := ⟨_, rfl⟩
        obtain ⟨K2, hK2⟩ : ∃ K, K = ndcells ks'[i] := ⟨_, rfl⟩
        simp only [← hK1] at c1 l1 n1 r1
        simp only [← hK2] at c1 l2 n2 r2
        have C1 := Lib.hid c1
        have L1 := Lib.hid l1
        have L2 := Lib.hid l2
        have N1 := Lib.hid n1
        have N2 := Lib.hid n2
        have R1 := Lib.hid r1
        have R2 := Lib.hid r2
        have Hst := Lib.hid hst
        have Hnx := Lib.hid hnx
        have bA : Below wr.heap.size wr (wr.alloc (.cells #[.int .i64 0, .slice none 0 0, .slice none 0 0, .slice none 0 0] 25)) := (Below.refl _ _).alloc (Nat.le_refl _) _
        clear I1 I2 hbk hst hnx c1 hq l1 l2 n1 n2 hK1 hK2 r1 r2 hall hil hil' hlt
        cases q with
        | true =>
          have hnx' := Hnx.out rfl
          have Hnx' := Lib.hid hnx'
          clear hnx'
          go_wp2_with (first
            | (refine wpList_loadW (o := ⟨some 21, _, _, _, _, _⟩) 25 (.tmp 20) (by rfl) b1 (o1 + i * 4) (by rfl) aggNode L1.out R1.out (by rfl) ?_)
            | ((with_reducible show wpList _ _ _ (⟨none, Op.store _ _ (Operand.tmp 21), _, _, _, _⟩ :: _) _ _); refine wpList_storeA (o := ⟨none, _, _, _, _, _⟩) (by rfl) 25 (.tmp 8) (.tmp 21) (by rfl) wr.heap.size K1 (by rfl) (by rfl) aggNode (Blk.new wr 25 [.int .i64 0, .slice none 0 0, .slice none 0 0, .slice none 0 0]) L1.out (by rfl) N1.out bA (Nat.le_refl _) ?_; intro w5 h8 b5 _; have r25 := World.rangeAt.below R2.out b5; have bB : Below w5.heap.size w5 (w5.alloc (.cells #[.int .i64 0, .slice none 0 0, .slice none 0 0, .slice none 0 0] 25)) := (Below.refl _ _).alloc (Nat.le_refl _) _)
            | (refine wpList_loadW (o := ⟨some 25, _, _, _, _, _⟩) 25 (.tmp 24) (by rfl) b2 (o2 + i * 4) (by rfl) aggNode L2.out r25 (by rfl) ?_)
            | ((with_reducible show wpList _ _ _ (⟨none, Op.store _ _ (Operand.tmp 25), _, _, _, _⟩ :: _) _ _); refine wpList_storeA (o := ⟨none, _, _, _, _, _⟩) (by rfl) 25 (.tmp 9) (.tmp 25) (by rfl) w5.heap.size K2 (by rfl) (by rfl) aggNode (Blk.new w5 25 [.int .i64 0, .slice none 0 0, .slice none 0 0, .slice none 0 0]) L2.out (by rfl) N2.out bB (Nat.le_refl _) ?_; intro w6 h9 b6 _; have h86 := h8.kept b6; have b56 := Below.then b5 b6)
            | (refine wpList_loadA (o := ⟨some 27, _, _, _, _, _⟩) (by rfl) 25 (.tmp 8) (by rfl) wr.heap.size (by rfl) aggNode h86 L1.out ?_)
            | (refine wpList_loadA (o := ⟨some 28, _, _, _, _, _⟩) (by rfl) 25 (.tmp 9) (by rfl) w5.heap.size (by rfl) aggNode h9 L2.out ?_)
            | (go_at_call 116; (with_reducible refine (C1.out _ b56).mono ?_); rintro e w7 ⟨rfl, b7⟩; have bb7 := Below.then hbr (Below.then b56 b7)))
          go_roundw
          case rel => exact ⟨i + 1, by omega, by go_num, bb7, Hnx'.out⟩
          case measure => simp [intOf]; omega
        | false =>
          have hRf : R = false := by rw [HR.out]; exact Hst.out rfl
          subst hRf
          go_wp2_with (first
            | (refine wpList_loadW (o := ⟨some 21, _, _, _, _, _⟩) 25 (.tmp 20) (by rfl) b1 (o1 + i * 4) (by rfl) aggNode L1.out R1.out (by rfl) ?_)
            | ((with_reducible show wpList _ _ _ (⟨none, Op.store _ _ (Operand.tmp 21), _, _, _, _⟩ :: _) _ _); refine wpList_storeA (o := ⟨none, _, _, _, _, _⟩) (by rfl) 25 (.tmp 8) (.tmp 21) (by rfl) wr.heap.size K1 (by rfl) (by rfl) aggNode (Blk.new wr 25 [.int .i64 0, .slice none 0 0, .slice none 0 0, .slice none 0 0]) L1.out (by rfl) N1.out bA (Nat.le_refl _) ?_; intro w5 h8 b5 _; have r25 := World.rangeAt.below R2.out b5; have bB : Below w5.heap.size w5 (w5.alloc (.cells #[.int .i64 0, .slice none 0 0, .slice none 0 0, .slice none 0 0] 25)) := (Below.refl _ _).alloc (Nat.le_refl _) _)
            | (refine wpList_loadW (o := ⟨some 25, _, _, _, _, _⟩) 25 (.tmp 24) (by rfl) b2 (o2 + i * 4) (by rfl) aggNode L2.out r25 (by rfl) ?_)
            | ((with_reducible show wpList _ _ _ (⟨none, Op.store _ _ (Operand.tmp 25), _, _, _, _⟩ :: _) _ _); refine wpList_storeA (o := ⟨none, _, _, _, _, _⟩) (by rfl) 25 (.tmp 9) (.tmp 25) (by rfl) w5.heap.size K2 (by rfl) (by rfl) aggNode (Blk.new w5 25 [.int .i64 0, .slice none 0 0, .slice none 0 0, .slice none 0 0]) L2.out (by rfl) N2.out bB (Nat.le_refl _) ?_; intro w6 h9 b6 _; have h86 := h8.kept b6; have b56 := Below.then b5 b6)
            | (refine wpList_loadA (o := ⟨some 27, _, _, _, _, _⟩) (by rfl) 25 (.tmp 8) (by rfl) wr.heap.size (by rfl) aggNode h86 L1.out ?_)
            | (refine wpList_loadA (o := ⟨some 28, _, _, _, _, _⟩) (by rfl) 25 (.tmp 9) (by rfl) w5.heap.size (by rfl) aggNode h9 L2.out ?_)
            | (go_at_call 116; (with_reducible refine (C1.out _ b56).mono ?_); rintro e w7 ⟨rfl, b7⟩; have bb7 := Below.then hbr (Below.then b56 b7)))
          go_ret
          exact ⟨rfl, bb7⟩
      · obtain rfl : i = kn := by omega
        have hRt : R = true := by rw [HR.out]; exact sameL_all ks ks' (by rw [Hkn.out, Hkn'.out]) (fun j hj => hall j hj (by rw [Hkn'.out, ← Hkn.out]; exact hj) (by rw [← Hkn.out]; exact hj))
        subst hRt
        clear hall hlt
        go_wp2_with fail
        go_ret
        exact ⟨rfl, hbr⟩
  · have hRf : R = false := by
      rw [hR, ← Bool.not_eq_true, sameL_iff]
      rintro ⟨h, _⟩
      rw [erNL_map, List.length_map] at h
      omega
    subst hRf
    have hne : ((kn : Int) == (kn' : Int)) = false := by rw [beq_eq_false_iff_ne]; omega
    clear hR hkn hkn' hN hl
    go_enter Try.func164, Try.ntmps164
    go_wp2_with fail
    go_ret
    exact ⟨rfl, Below.refl _ _⟩
end Go.Proofs.Ytnhbfnegpjkojaa
