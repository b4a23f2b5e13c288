/- The reference's SameNode. | The reference's SameNode of any two nodes. | The reference's GRight. -/
import Derived.Test.YtljbbpcnoajfeaaGrwA
/- (Same1) The reference's SameNode. -/
set_option linter.unusedSimpArgs false
set_option linter.unusedVariables false
namespace Go.Proofs.Ytljbbpcnoajfeaa
open Go.RowKit
def SmC (N : Nat) (k : Nd) : Prop := ∀ (s : Nd) (u : World), IsNd u k → IsNd u s → bulkN k ≤ N → Calls Try.prog 55 #[.agg (ndcells k).toArray, .agg (ndcells s).toArray] u fun e w' => e = .returned (.bool (sameP k (erN s))) ∧ Below u.heap.size u w'
theorem sameL_step : ∀ (ks ks' : List Nd) (i : Nat) (hi : i < ks.length) (hi' : i < ks'.length), (∀ j (hj : j < i), sameP (ks[j]'(by omega)) (erN (ks'[j]'(by omega))) = true) → sameP ks[i] (erN ks'[i]) = false → sameL ks (erNL ks') = false := by
  intro ks ks' i hi hi' _ hf
  rw [← Bool.not_eq_true, sameL_iff]
  rintro ⟨_, h⟩
  rw [h i ks[i] (erN ks'[i]) (List.getElem?_eq_getElem hi) (by rw [erNL_map, List.getElem?_map, List.getElem?_eq_getElem hi']; rfl)] at hf
  simp at hf
theorem sameL_all (ks ks' : List Nd) (h : ks.length = ks'.length) (ha : ∀ j (hj : j < ks.length), sameP ks[j] (erN (ks'[j]'(by omega))) = true) : sameL ks (erNL ks') = true := by
  rw [sameL_iff]
  refine ⟨by rw [erNL_map, List.length_map, h], fun i k k' hk hk' => ?_⟩
  obtain ⟨h1, rfl⟩ := List.getElem?_eq_some_iff.1 hk
  rw [erNL_map, List.getElem?_map, List.getElem?_eq_getElem (by omega)] at hk'
  simp only [Option.map_some, Option.some.injEq] at hk'
  rw [← hk']
  exact ha i h1
theorem enters_same (a b : Value) (w : World) : (callFunc 55 #[a, b]).run Try.prog w = .ok (.enter 55 #[a, b]) w := by
  have hf := Try.func55
  have h1 : Try.f55.name ≠ "runtime.NumGoroutine" := by decide
  have hb : Try.f55.body = some _ := rfl
  simp [callFunc, hf, h1, hb]
set_option maxHeartbeats 1000000 in
set_option maxRecDepth 100000 in
theorem eqf_any (N : Nat) (ka ka' : Option Addr) (kn kc kn' kc' : Nat) (ks ks' : List Nd) (hkn : ks.length = kn) (hkn' : ks'.length = kn') (hN : bulkNL ks ≤ N) (hs : kn ≤ 100000000000) (w : World) (hk : RowOf ndcells 4 w (.slice ka kn kc) ks) (hk' : RowOf ndcells 4 w (.slice ka' kn' kc') ks')
    (hks : ∀ k ∈ ks, IsNd w k) (hks' : ∀ k ∈ ks', IsNd w k) (ih : ∀ k ∈ ks, SmC N k) :
    Calls Try.prog 91 #[.slice ka kn kc, .slice ka' kn' kc', .func (.func 55) #[] #[]] w fun e w' => e = .returned (.bool (sameL ks (erNL ks'))) ∧ Below w.heap.size w w' := by
  obtain ⟨R, hR⟩ : ∃ R, R = sameL ks (erNL ks') := ⟨_, rfl⟩
  rw [← hR]
  have hent := enters_same
  have HR := Lib.hid hR
  have Hkn := Lib.hid hkn
  have Hkn' := Lib.hid hkn'
  have HN := Lib.hid hN
  by_cases hl : kn = kn'
  · subst hl
    clear hR hkn hkn' hN
    go_enter Try.func91, Try.ntmps91
    go_wp2_with fail
    go_loopw [17] (fun ix wr => ∃ i : Nat, i ≤ kn ∧ ix = .int .i64 (i : Int) ∧ Below w.heap.size w wr ∧ ∀ j (h1 : j < ks.length) (h2 : j < ks'.length), j < i → sameP ks[j] (erN ks'[j]) = true) (fun ix _ => kn - (intOf ix).toNat)
    case atStart => exact ⟨0, by omega, rfl, Below.refl _ _, fun j _ _ h => by omega⟩
    case round =>
      obtain ⟨i, hii, rfl, hbr, hall⟩ := hrel
      by_cases hlt : i < kn
      · have hki : (i : Int) < (kn : Int) := by omega
        have hil : i < ks.length := by rw [Hkn.out]; exact hlt
        have hil' : i < ks'.length := by rw [Hkn'.out]; exact hlt
        obtain ⟨b1, o1, rfl, r1⟩ := RowOf.range ndcells_len (hk.below hbr) i hil
        obtain ⟨b2, o2, rfl, r2⟩ := RowOf.range ndcells_len (hk'.below hbr) i hil'
        have I1 := (hks _ (List.getElem_mem hil)).kept hbr
        have I2 := (hks' _ (List.getElem_mem hil')).kept hbr
        have hbk := bulkN_mem (List.getElem_mem hil)
        have hst := sameL_step ks ks' i hil hil' (fun j hj => hall j (by omega) (by omega) hj)
        have hnx : sameP ks[i] (erN ks'[i]) = true → ∀ j (h1 : j < ks.length) (h2 : j < ks'.length), j < i + 1 → sameP ks[j] (erN ks'[j]) = true := by
          intro he j h1 h2 hj
          by_cases hji : j = i
          · subst hji; exact he
          · exact hall j h1 h2 (by omega)
        have c1 := fun (u : World) (hu : Below wr.heap.size wr u) => ih _ (List.getElem_mem hil) ks'[i] u (I1.kept hu) (I2.kept hu) (by have := HN.out; omega)
        obtain ⟨q, hq⟩ : ∃ q, q = sameP ks[i] (erN ks'[i]) := ⟨_, rfl⟩
        simp only [← hq] at c1 hst hnx
        have l1 := ndcells_len ks[i]
        have l2 := ndcells_len ks'[i]
        have n1 := I1.one
        have n2 := I2.one
        obtain ⟨K1, hK1⟩ : ∃ K, K = ndcells ks[i] := ⟨_, rfl⟩
        obtain ⟨K2, hK2⟩ : ∃ K, K = ndcells ks'[i] := ⟨_, rfl⟩
        simp only [← hK1] at c1 l1 n1 r1
        simp only [← hK2] at c1 l2 n2 r2
        have C1 := Lib.hid c1
        have L1 := Lib.hid l1
        have L2 := Lib.hid l2
        have N1 := Lib.hid n1
        have N2 := Lib.hid n2
        have R1 := Lib.hid r1
        have R2 := Lib.hid r2
        have Hst := Lib.hid hst
        have Hnx := Lib.hid hnx
        have bA : Below wr.heap.size wr (wr.alloc (.cells #[.int .i64 0, .slice none 0 0, .slice none 0 0, .slice none 0 0] 25)) := (Below.refl _ _).alloc (Nat.le_refl _) _
        clear I1 I2 hbk hst hnx c1 hq l1 l2 n1 n2 hK1 hK2 r1 r2 hall hil hil' hlt
        cases q with
        | true =>
          have hnx' := Hnx.out rfl
          have Hnx' := Lib.hid hnx'
          clear hnx'
          go_wp2_with (first
            | (refine wpList_loadW (o := ⟨some 21, _, _, _, _, _⟩) 25 (.tmp 20) (by rfl) b1 (o1 + i * 4) (by rfl) aggNode L1.out R1.out (by rfl) ?_)
            | ((with_reducible show wpList _ _ _ (⟨none, Op.store _ _ (Operand.tmp 21), _, _, _, _⟩ :: _) _ _); refine wpList_storeA (o := ⟨none, _, _, _, _, _⟩) (by rfl) 25 (.tmp 8) (.tmp 21) (by rfl) wr.heap.size K1 (by rfl) (by rfl) aggNode (Blk.new wr 25 [.int .i64 0, .slice none 0 0, .slice none 0 0, .slice none 0 0]) L1.out (by rfl) N1.out bA (Nat.le_refl _) ?_; intro w5 h8 b5 _; have r25 := World.rangeAt.below R2.out b5; have bB : Below w5.heap.size w5 (w5.alloc (.cells #[.int .i64 0, .slice none 0 0, .slice none 0 0, .slice none 0 0] 25)) := (Below.refl _ _).alloc (Nat.le_refl _) _)
            | (refine wpList_loadW (o := ⟨some 25, _, _, _, _, _⟩) 25 (.tmp 24) (by rfl) b2 (o2 + i * 4) (by rfl) aggNode L2.out r25 (by rfl) ?_)
            | ((with_reducible show wpList _ _ _ (⟨none, Op.store _ _ (Operand.tmp 25), _, _, _, _⟩ :: _) _ _); refine wpList_storeA (o := ⟨none, _, _, _, _, _⟩) (by rfl) 25 (.tmp 9) (.tmp 25) (by rfl) w5.heap.size K2 (by rfl) (by rfl) aggNode (Blk.new w5 25 [.int .i64 0, .slice none 0 0, .slice none 0 0, .slice none 0 0]) L2.out (by rfl) N2.out bB (Nat.le_refl _) ?_; intro w6 h9 b6 _; have h86 := h8.kept b6; have b56 := Below.then b5 b6)
            | (refine wpList_loadA (o := ⟨some 27, _, _, _, _, _⟩) (by rfl) 25 (.tmp 8) (by rfl) wr.heap.size (by rfl) aggNode h86 L1.out ?_)
            | (refine wpList_loadA (o := ⟨some 28, _, _, _, _, _⟩) (by rfl) 25 (.tmp 9) (by rfl) w5.heap.size (by rfl) aggNode h9 L2.out ?_)
            | (go_at_call 55; (with_reducible refine (C1.out _ b56).mono ?_); rintro e w7 ⟨rfl, b7⟩; have bb7 := Below.then hbr (Below.then b56 b7)))
          go_roundw
          case rel => exact ⟨i + 1, by omega, by go_num, bb7, Hnx'.out⟩
          case measure => simp [intOf]; omega
        | false =>
          have hRf : R = false := by rw [HR.out]; exact Hst.out rfl
          subst hRf
          go_wp2_with (first
            | (refine wpList_loadW (o := ⟨some 21, _, _, _, _, _⟩) 25 (.tmp 20) (by rfl) b1 (o1 + i * 4) (by rfl) aggNode L1.out R1.out (by rfl) ?_)
            | ((with_reducible show wpList _ _ _ (⟨none, Op.store _ _ (Operand.tmp 21), _, _, _, _⟩ :: _) _ _); refine wpList_storeA (o := ⟨none, _, _, _, _, _⟩) (by rfl) 25 (.tmp 8) (.tmp 21) (by rfl) wr.heap.size K1 (by rfl) (by rfl) aggNode (Blk.new wr 25 [.int .i64 0, .slice none 0 0, .slice none 0 0, .slice none 0 0]) L1.out (by rfl) N1.out bA (Nat.le_refl _) ?_; intro w5 h8 b5 _; have r25 := World.rangeAt.below R2.out b5; have bB : Below w5.heap.size w5 (w5.alloc (.cells #[.int .i64 0, .slice none 0 0, .slice none 0 0, .slice none 0 0] 25)) := (Below.refl _ _).alloc (Nat.le_refl _) _)
            | (refine wpList_loadW (o := ⟨some 25, _, _, _, _, _⟩) 25 (.tmp 24) (by rfl) b2 (o2 + i * 4) (by rfl) aggNode L2.out r25 (by rfl) ?_)
            | ((with_reducible show wpList _ _ _ (⟨none, Op.store _ _ (Operand.tmp 25), _, _, _, _⟩ :: _) _ _); refine wpList_storeA (o := ⟨none, _, _, _, _, _⟩) (by rfl) 25 (.tmp 9) (.tmp 25) (by rfl) w5.heap.size K2 (by rfl) (by rfl) aggNode (Blk.new w5 25 [.int .i64 0, .slice none 0 0, .slice none 0 0, .slice none 0 0]) L2.out (by rfl) N2.out bB (Nat.le_refl _) ?_; intro w6 h9 b6 _; have h86 := h8.kept b6; have b56 := Below.then b5 b6)
            | (refine wpList_loadA (o := ⟨some 27, _, _, _, _, _⟩) (by rfl) 25 (.tmp 8) (by rfl) wr.heap.size (by rfl) aggNode h86 L1.out ?_)
            | (refine wpList_loadA (o := ⟨some 28, _, _, _, _, _⟩) (by rfl) 25 (.tmp 9) (by rfl) w5.heap.size (by rfl) aggNode h9 L2.out ?_)
            | (go_at_call 55; (with_reducible refine (C1.out _ b56).mono ?_); rintro e w7 ⟨rfl, b7⟩; have bb7 := Below.then hbr (Below.then b56 b7)))
          go_ret
          exact ⟨rfl, bb7⟩
      · obtain rfl : i = kn := by omega
        have hRt : R = true := by rw [HR.out]; exact sameL_all ks ks' (by rw [Hkn.out, Hkn'.out]) (fun j hj => hall j hj (by rw [Hkn'.out, ← Hkn.out]; exact hj) (by rw [← Hkn.out]; exact hj))
        subst hRt
        clear hall hlt
        go_wp2_with fail
        go_ret
        exact ⟨rfl, hbr⟩
  · have hRf : R = false := by
      rw [hR, ← Bool.not_eq_true, sameL_iff]
      rintro ⟨h, _⟩
      rw [erNL_map, List.length_map] at h
      omega
    subst hRf
    have hne : ((kn : Int) == (kn' : Int)) = false := by rw [beq_eq_false_iff_ne]; omega
    clear hR hkn hkn' hN hl
    go_enter Try.func91, Try.ntmps91
    go_wp2_with fail
    go_ret
    exact ⟨rfl, Below.refl _ _⟩
end Go.Proofs.Ytljbbpcnoajfeaa
/- (Same2) The reference's SameNode of any two nodes. -/
namespace Go.Proofs.Ytljbbpcnoajfeaa
open Go.RowKit
section
variable (N : Nat) (hN : N ≤ 100000000000) (kd kd' : Int) (pa va ka pa' va' ka' : Option Addr) (pn pc vn vc kn kc pn' pc' vn' vc' kn' kc' : Nat) (p v p' v' : List UInt8) (ks ks' : List Nd) (hkn : ks.length = kn) (hkn' : ks'.length = kn') (w : World)
  (hp : Bytes w (.slice pa pn pc) p) (hv : Bytes w (.slice va vn vc) v) (hk : RowOf ndcells 4 w (.slice ka kn kc) ks) (hks : ∀ k ∈ ks, IsNd w k)
  (hp' : Bytes w (.slice pa' pn' pc') p') (hv' : Bytes w (.slice va' vn' vc') v') (hk' : RowOf ndcells 4 w (.slice ka' kn' kc') ks') (hks' : ∀ k ∈ ks', IsNd w k)
include hN hkn hkn' hp hv hk hks hp' hv' hk' hks' in
set_option maxHeartbeats 4000000 in
set_option maxRecDepth 100000 in
theorem same_parts (ih : ∀ k ∈ ks, SmC N k) (hb : bulkNL ks ≤ N) : Calls Try.prog 55 #[.agg #[.int .i64 kd, .slice pa pn pc, .slice va vn vc, .slice ka kn kc], .agg #[.int .i64 kd', .slice pa' pn' pc', .slice va' vn' vc', .slice ka' kn' kc']] w
    fun e w' => e = .returned (.bool (if kd ≠ kd' then false else if kd = 1 then p == p' && v == v' else if kd = 2 then p == p' && sameL ks (erNL ks') else if kd = 3 then v == v' && sameL ks (erNL ks') else true)) ∧ Below w.heap.size w w' := by
  obtain ⟨R, hR⟩ : ∃ R, R = if kd ≠ kd' then false else if kd = 1 then p == p' && v == v' else if kd = 2 then p == p' && sameL ks (erNL ks') else if kd = 3 then v == v' && sameL ks (erNL ks') else true := ⟨_, rfl⟩
  rw [← hR]
  obtain ⟨w2, hw2⟩ : ∃ w2, w2 = (w.alloc (.cells #[.int .i64 kd, .slice pa pn pc, .slice va vn vc, .slice ka kn kc] 25)).alloc (.cells #[.int .i64 kd', .slice pa' pn' pc', .slice va' vn' vc', .slice ka' kn' kc'] 25) := ⟨_, rfl⟩
  have hA : Blk 25 w2 w.heap.size [.int .i64 kd, .slice pa pn pc, .slice va vn vc, .slice ka kn kc] := by rw [hw2]; exact (Blk.new w _ _).alloc _
  have hB : Blk 25 w2 (w.heap.size + 1) [.int .i64 kd', .slice pa' pn' pc', .slice va' vn' vc', .slice ka' kn' kc'] := by
    have := Blk.new (w.alloc (.cells #[.int .i64 kd, .slice pa pn pc, .slice va vn vc, .slice ka kn kc] 25)) 25 [.int .i64 kd', .slice pa' pn' pc', .slice va' vn' vc', .slice ka' kn' kc']
    rw [hw2]; simpa using this
  have hbel : Below w.heap.size w w2 := by rw [hw2]; exact ((Below.refl _ _).alloc (Nat.le_refl _) _).alloc (by simp) _
  have a0 := (hA.cell 0).trans (show _ = some (Value.int .i64 kd) from rfl)
  have a1 := (hA.cell 1).trans (show _ = some (Value.slice pa pn pc) from rfl)
  have a2 := (hA.cell 2).trans (show _ = some (Value.slice va vn vc) from rfl)
  have a3 := (hA.cell 3).trans (show _ = some (Value.slice ka kn kc) from rfl)
  have b0 := (hB.cell 0).trans (show _ = some (Value.int .i64 kd') from rfl)
  have b1 := (hB.cell 1).trans (show _ = some (Value.slice pa' pn' pc') from rfl)
  have b2 := (hB.cell 2).trans (show _ = some (Value.slice va' vn' vc') from rfl)
  have b3 := (hB.cell 3).trans (show _ = some (Value.slice ka' kn' kc') from rfl)
  have s1 := run_str (P := Try.prog) (src := 22) (dst := 9) elU8.ht (by kernel_rfl) (by kernel_rfl) (hp.below hbel)
  have s2 := run_str (P := Try.prog) (src := 22) (dst := 9) elU8.ht (by kernel_rfl) (by kernel_rfl) (hv.below hbel)
  have s3 := run_str (P := Try.prog) (src := 22) (dst := 9) elU8.ht (by kernel_rfl) (by kernel_rfl) (hp'.below hbel)
  have s4 := run_str (P := Try.prog) (src := 22) (dst := 9) elU8.ht (by kernel_rfl) (by kernel_rfl) (hv'.below hbel)
  have c1 := eqf_any N ka ka' kn kc kn' kc' ks ks' hkn hkn' hb (by have := bulkN_len ks; omega) w2 (hk.below hbel) (hk'.below hbel) (fun k h => (hks k h).kept hbel) (fun k h => (hks' k h).kept hbel) ih
  obtain ⟨q, hq⟩ : ∃ q, q = sameL ks (erNL ks') := ⟨_, rfl⟩
  rw [← hq] at c1 hR
  have C1 := Lib.hid c1
  have HR := Lib.hid hR
  obtain ⟨bp, hbp⟩ : ∃ b, b = (p == p') := ⟨_, rfl⟩
  obtain ⟨bv, hbv⟩ : ∃ b, b = (v == v') := ⟨_, rfl⟩
  have hbp' := hbp.symm
  have hbv' := hbv.symm
  rw [hw2] at a0 a1 a2 a3 b0 b1 b2 b3 s1 s2 s3 s4 C1 hbel
  clear hA hB hw2 hR c1 hq hbp hbv hks hks' hk hk' hp hp' hv hv' ih
  by_cases hkk : kd = kd'
  · subst hkk
    have hR2 : R = if kd = 1 then bp && bv else if kd = 2 then bp && q else if kd = 3 then bv && q else true := by rw [HR.out, if_neg (by simp), hbp', hbv']
    clear HR
    by_cases h1 : kd = 1
    · subst h1
      rw [if_pos rfl] at hR2
      subst hR2
      cases bp <;> cases bv
      all_goals
        go_enter Try.func55, Try.ntmps55
        go_wp2_with fail
        go_ret
        exact ⟨rfl, hbel⟩
    · by_cases h2 : kd = 2
      · subst h2
        rw [if_neg h1, if_pos rfl] at hR2
        subst hR2
        cases bp
        · go_enter Try.func55, Try.ntmps55
          go_wp2_with fail
          go_ret
          exact ⟨rfl, hbel⟩
        · go_enter Try.func55, Try.ntmps55
          go_wp2_with (go_at_call 91; (with_reducible refine C1.out.mono ?_); rintro e w3 ⟨rfl, b3⟩)
          go_ret
          exact ⟨rfl, Below.then hbel b3⟩
      · by_cases h3 : kd = 3
        · subst h3
          rw [if_neg h1, if_neg h2, if_pos rfl] at hR2
          subst hR2
          cases bv
          · go_enter Try.func55, Try.ntmps55
            go_wp2_with fail
            go_ret
            exact ⟨rfl, hbel⟩
          · go_enter Try.func55, Try.ntmps55
            go_wp2_with (go_at_call 91; (with_reducible refine C1.out.mono ?_); rintro e w3 ⟨rfl, b3⟩)
            go_ret
            exact ⟨rfl, Below.then hbel b3⟩
        · rw [if_neg h1, if_neg h2, if_neg h3] at hR2
          subst hR2
          have e1 : (kd == 1) = false := by rw [beq_eq_false_iff_ne]; exact h1
          have e2 : (kd == 2) = false := by rw [beq_eq_false_iff_ne]; exact h2
          have e3 : (kd == 3) = false := by rw [beq_eq_false_iff_ne]; exact h3
          clear h1 h2 h3
          go_enter Try.func55, Try.ntmps55
          go_wp2_with fail
          go_ret
          exact ⟨rfl, hbel⟩
  · have hRf : R = false := by rw [HR.out, if_pos hkk]
    subst hRf
    have hne : (kd == kd') = false := by rw [beq_eq_false_iff_ne]; exact hkk
    clear hkk HR
    go_enter Try.func55, Try.ntmps55
    go_wp2_with fail
    go_ret
    exact ⟨rfl, hbel⟩
end
theorem same_any (N : Nat) (hN : N ≤ 100000000000) : ∀ (n : Nat) (t : Nd), SizeOf.sizeOf t ≤ n → SmC N t
  | 0, .mk kd pv p vv v kv ks, h => by simp at h
  | n + 1, .mk kd pv p vv v kv ks, h => by
    intro s w hI hS hd
    have hks : ∀ k ∈ ks, SmC N k := by
      intro k hk
      refine same_any N hN n k ?_
      have := List.sizeOf_lt_of_mem hk
      simp only [Nd.mk.sizeOf_spec] at h
      omega
    obtain ⟨kd', pv', p', vv', v', kv', ks'⟩ := s
    obtain ⟨hp, hv, hk, hall⟩ := hI.inv
    obtain ⟨hp', hv', hk', hall'⟩ := hS.inv
    obtain ⟨pa, pc, rfl, _, _⟩ := hp.form
    obtain ⟨va, vc, rfl, _, _⟩ := hv.form
    obtain ⟨ka, kc, rfl, _, _⟩ := hk.form
    obtain ⟨pa', pc', rfl, _, _⟩ := hp'.form
    obtain ⟨va', vc', rfl, _, _⟩ := hv'.form
    obtain ⟨ka', kc', rfl, _, _⟩ := hk'.form
    simp only [bulkN] at hd
    have := same_parts N hN kd kd' pa va ka pa' va' ka' p.length pc v.length vc ks.length kc p'.length pc' v'.length vc' ks'.length kc' p v p' v' ks ks' rfl rfl w hp hv hk hall hp' hv' hk' hall' hks (by omega)
    simp only [erN, sameP]
    exact this
end Go.Proofs.Ytljbbpcnoajfeaa
/- (GRight) The reference's GRight. -/
namespace Go.Proofs.Ytljbbpcnoajfeaa
open Go.RowKit
def fineB (l : List Rt) : Bool := l.all fun r => decide (fineP 0 r)
theorem fineB_take (l : List Rt) (k : Nat) (hk : k < l.length) (h : fineB (l.take k) = true) (hf : fineP 0 l[k]) : fineB (l.take (k + 1)) = true := by
  unfold fineB at h ⊢
  rw [List.take_succ_eq_append_getElem hk, List.all_append, h]
  simp [hf]
theorem fineB_not (l : List Rt) (k : Nat) (hk : k < l.length) (hf : ¬ fineP 0 l[k]) : fineB l = false := by
  unfold fineB
  rw [List.all_eq_false]
  exact ⟨l[k], List.getElem_mem hk, by simpa using hf⟩
def grightP (t : Nd) : Bool := match rts t with | none => false | some l => fineB l && sameP t (grw 65 l)
theorem gright_rgt (t : Nd) : grightP t = rgt 0 t := by
  rw [rgt_iff t 65 (Nat.le_refl _)]
  rfl
theorem fineP_iff (r : Rt) (n m : Nat) (hn : r.1.length = n) (hm : r.2.length = m) : fineP 0 r ↔ (n % 2 = 0 ∧ n ≤ 64 ∧ 0 < m ∧ m ≤ 1024) := by
  unfold fineP
  rw [hn, hm, Nat.zero_add]
set_option maxHeartbeats 4000000 in
set_option maxRecDepth 100000 in
theorem gright_big (t : Nd) (w : World) (hI : IsNd w t) (hb : bulkN t ≤ 99999999999) (hcn : ∀ l, rts t = some l → l.length ≤ 1048576) : Calls Try.prog 26 #[.agg (ndcells t).toArray] w fun e w' => e = .returned (.bool (grightP t)) ∧ Below w.heap.size w w' := by
  obtain ⟨R, hR⟩ : ∃ R, R = grightP t := ⟨_, rfl⟩
  rw [← hR]
  have HR := Lib.hid hR
  obtain ⟨w1, hw1⟩ : ∃ w1, w1 = w.alloc (.cells (ndcells t).toArray 25) := ⟨_, rfl⟩
  have hz : Blk 25 w1 w.heap.size (ndcells t) := by rw [hw1]; exact Blk.new w _ _
  have hbel : Below w.heap.size w w1 := by rw [hw1]; exact (Below.refl _ _).alloc (Nat.le_refl _) _
  have hKl := ndcells_len t
  have cr := routes_any 100000000000 (Nat.le_refl _) (SizeOf.sizeOf t) t (Nat.le_refl _) [] w1 (hI.kept hbel) (by simp; omega)
  rw [show (⟨([] : List UInt8).toArray⟩ : ByteArray) = ⟨#[]⟩ from rfl] at cr
  have hlen := hcn
  clear hcn
  have hord := fun l (h : rts t = some l) => ord_rts (SizeOf.sizeOf t) t (Nat.le_refl _) l h
  have csame := fun (s : Nd) (u : World) (hu : Below w.heap.size w u) (hs : IsNd u s) => same_any 100000000000 (Nat.le_refl _) (SizeOf.sizeOf t) t (Nat.le_refl _) s u (hI.kept hu) hs (by omega)
  obtain ⟨K, hK⟩ : ∃ K, K = ndcells t := ⟨_, rfl⟩
  simp only [← hK] at cr csame hz hKl hw1 ⊢
  have r1 := hz.all0
  have Hw1 := Lib.hid hw1
  have Hord := Lib.hid hord
  have Hlen := Lib.hid hlen
  have Csame := Lib.hid csame
  have HK := Lib.hid hK
  clear hw1 hR hlen hord csame hK
  cases hr : rts t with
  | none =>
    have hRf : R = false := by rw [HR.out]; unfold grightP; rw [hr]
    subst hRf
    rw [hr] at cr
    have C1 : Calls Try.prog 27 #[.agg K.toArray, .string ⟨#[]⟩] w1 (fun e w' => Below w1.heap.size w1 w' ∧ e = .returned (.tuple #[.slice none 0 0, .bool false])) := cr
    have C2 := Lib.hid C1
    clear C1 cr hr
    go_enter Try.func26, Try.ntmps26
    go_wp2_with (first
      | (refine wpList_loadW (o := ⟨some 8, _, _, _, _, _⟩) 25 (.tmp 1) (by rfl) w.heap.size 0 (by rfl) aggNode hKl (by rw [← Hw1.out]; exact r1) (by rfl) ?_)
      | (go_at_call 27; rw [← Hw1.out]; (with_reducible refine C2.out.mono ?_); rintro e w2 ⟨b2, rfl⟩; have bb2 := Below.then hbel b2))
    go_loopw [14] (fun ix wr => ix = .int .i64 0 ∧ Below w.heap.size w wr) (fun ix _ => 0)
    case atStart => exact ⟨rfl, bb2⟩
    case round =>
      obtain ⟨rfl, hbr⟩ := hrel
      go_wp2_with fail
      refine wp_region_typed wr 7 (by kernel_rfl) (by kernel_rfl) (Below.refl _ _) ?_; simp only [List.take_succ_cons, List.take_zero, List.take_nil]
      iterate 7 (refine wpX_step (by rfl) (fun K hK => ?_); go_simp; first | (refine hK _ ?_; clear hK K) | (apply Exists.intro; refine ⟨fun _ => ?_, hK _ ?_⟩; fail; clear hK K))
      refine wpX_nil ?_
      intro u2 hb2
      simp only [List.reverse_nil, forallRel]
      change wpList _ _ _ [_] _ _
      go_wp2_with fail
      go_ret
      exact ⟨rfl, Below.then hbr hb2⟩
  | some l =>
    have hll := Hlen.out l hr
    have hor := Hord.out l hr
    have hR2 : R = (fineB l && sameP t (grw 65 l)) := by rw [HR.out]; unfold grightP; rw [hr]
    rw [hr] at cr
    have C1 : Calls Try.prog 27 #[.agg K.toArray, .string ⟨#[]⟩] w1 (fun e w' => Below w1.heap.size w1 w' ∧ ∃ (a : Option Addr) (n c : Nat), e = .returned (.tuple #[.slice a n c, .bool true]) ∧ RowOf rcells 2 w' (.slice a n c) (pre [] l)) := cr
    rw [pre_nil] at C1
    have C2 := Lib.hid C1
    have HR2 := Lib.hid hR2
    have hL6 : l.length ≤ 2000000 := by omega
    have HL6 := Lib.hid hL6
    have Hor := Lib.hid hor
    clear C1 cr hr HR hR2 hll hL6 hor
    go_enter Try.func26, Try.ntmps26
    go_wp2_with (first
      | (refine wpList_loadW (o := ⟨some 8, _, _, _, _, _⟩) 25 (.tmp 1) (by rfl) w.heap.size 0 (by rfl) aggNode hKl (by rw [← Hw1.out]; exact r1) (by rfl) ?_)
      | (go_at_call 27; rw [← Hw1.out]; (with_reducible refine C2.out.mono ?_); rintro e w2 ⟨b2, a, n, c, rfl, hrow⟩; have bb2 := Below.then hbel b2; have hz2 := hz.kept b2))
    have hnl := hrow.fits.1
    have hn6 : n ≤ 2000000 := by have := HL6.out; omega
    have Hnl := Lib.hid hnl
    clear hnl
    go_loopw [14] (fun ix wr => ∃ k : Nat, k ≤ n ∧ ix = .int .i64 (k : Int) ∧ fineB (l.take k) = true ∧ Below w2.heap.size w2 wr) (fun ix _ => n - (intOf ix).toNat)
    case atStart => exact ⟨0, by omega, rfl, rfl, Below.refl _ _⟩
    case round =>
      obtain ⟨k, hkk, rfl, hall, hwr⟩ := hrel
      have hbr := Below.then bb2 hwr
      by_cases hlt : k < n
      · have hki : (k : Int) < (n : Int) := by omega
        have hkl : k < l.length := by rw [← Hnl.out]; exact hlt
        obtain ⟨b, off, rfl, hrr⟩ := RowOf.range (f := rcells) (size := 2) (fun _ => rfl) (hrow.below hwr) k hkl
        have hst := fineB_take l k hkl hall
        have hno := fineB_not l k hkl
        obtain ⟨y, hy⟩ : ∃ y, y = l[k] := ⟨_, rfl⟩
        rw [← hy] at hrr hst hno
        obtain ⟨y1, y2⟩ := y
        have hfi := fineP_iff (y1, y2) y1.length y2.length rfl rfl
        obtain ⟨n1, hn1⟩ : ∃ n, n = y1.length := ⟨_, rfl⟩
        obtain ⟨m1, hm1⟩ : ∃ n, n = y2.length := ⟨_, rfl⟩
        rw [← hn1, ← hm1] at hfi
        have hr2 : wr.rangeAt b (off + k * 2) [.string ⟨y1.toArray⟩, .string ⟨y2.toArray⟩] := hrr
        obtain ⟨S1, hS1⟩ : ∃ S : ByteArray, S = ⟨y1.toArray⟩ := ⟨_, rfl⟩
        obtain ⟨S2, hS2⟩ : ∃ S : ByteArray, S = ⟨y2.toArray⟩ := ⟨_, rfl⟩
        rw [← hS1, ← hS2] at hr2
        have z1 : S1.size = n1 := by rw [hS1, hn1]; exact str_size y1
        have z2 : S2.size = m1 := by rw [hS2, hm1]; exact str_size y2
        have n0 : ∀ (g : Nat) (u : World), Blk 80 u g [.string S1, .string S2] → u.cell? ⟨g, 0, none⟩ = some (.string S1) ∧ u.cell? ⟨g, 1, none⟩ = some (.string S2) := fun g u hb => ⟨(hb.cell 0).trans rfl, (hb.cell 1).trans rfl⟩
        have N0 := Lib.hid n0
        have bA : Below wr.heap.size wr (wr.alloc (.cells #[.string ByteArray.empty, .string ByteArray.empty] 80)) := (Below.refl _ _).alloc (Nat.le_refl _) _
        have hm : (n1 : Int).tmod 2 = ((n1 % 2 : Nat) : Int) := by rw [Int.tmod_eq_emod_of_nonneg (by omega)]; omega
        have Hst := Lib.hid hst
        have Hno := Lib.hid hno
        have Hfi := Lib.hid hfi
        have Hr2 := Lib.hid hr2
        clear n0 hy hrr hS1 hS2 hn1 hm1 hst hno hfi hr2 hall hlt
        by_cases f1 : n1 % 2 = 0
        · rw [f1] at hm
          by_cases f2 : n1 ≤ 64
          · have g2 : ¬ (64 : Int) < (n1 : Int) := by omega
            by_cases f3 : 0 < m1
            · have g3 : ((m1 : Int) == 0) = false := by rw [beq_eq_false_iff_ne]; omega
              by_cases f4 : m1 ≤ 1024
              · have g4 : ¬ (1024 : Int) < (m1 : Int) := by omega
                have hnx := Hst.out (Hfi.out.2 ⟨f1, f2, f3, f4⟩)
                have Hnx := Lib.hid hnx
                clear f1 f2 f3 f4 hnx
                go_wp2_with (first
                              | (refine wpList_loadW (o := ⟨some 17, _, _, _, _, _⟩) 80 (.tmp 16) (by rfl) b (off + k * 2) (by rfl) aggRoute (by rfl) Hr2.out (by rfl) ?_)
                              | ((with_reducible show wpList _ _ _ (⟨none, Op.store _ _ (Operand.tmp 17), _, _, _, _⟩ :: _) _ _); refine wpList_storeA (o := ⟨none, _, _, _, _, _⟩) (by rfl) 80 (.tmp 6) (.tmp 17) (by rfl) wr.heap.size [.string S1, .string S2] (by rfl) (by rfl) aggRoute (Blk.new wr 80 [.string ByteArray.empty, .string ByteArray.empty]) (by rfl) (by rfl) (by intro u hu; simp at hu; rcases hu with rfl | rfl <;> rfl) bA (Nat.le_refl _) ?_; intro w5 h7 b5 _; obtain ⟨i0, i1⟩ := N0.out _ _ h7; have bb5 := Below.then hbr b5))
                go_roundw
                case rel => exact ⟨k + 1, by omega, by go_num, Hnx.out, Below.then hwr b5⟩
                case measure => simp [intOf]; omega
              · have g4 : (1024 : Int) < (m1 : Int) := by omega
                have hRf : R = false := by rw [HR2.out, Hno.out (fun h => by have := Hfi.out.1 h; omega)]; rfl
                subst hRf
                go_wp2_with (first
                              | (refine wpList_loadW (o := ⟨some 17, _, _, _, _, _⟩) 80 (.tmp 16) (by rfl) b (off + k * 2) (by rfl) aggRoute (by rfl) Hr2.out (by rfl) ?_)
                              | ((with_reducible show wpList _ _ _ (⟨none, Op.store _ _ (Operand.tmp 17), _, _, _, _⟩ :: _) _ _); refine wpList_storeA (o := ⟨none, _, _, _, _, _⟩) (by rfl) 80 (.tmp 6) (.tmp 17) (by rfl) wr.heap.size [.string S1, .string S2] (by rfl) (by rfl) aggRoute (Blk.new wr 80 [.string ByteArray.empty, .string ByteArray.empty]) (by rfl) (by rfl) (by intro u hu; simp at hu; rcases hu with rfl | rfl <;> rfl) bA (Nat.le_refl _) ?_; intro w5 h7 b5 _; obtain ⟨i0, i1⟩ := N0.out _ _ h7; have bb5 := Below.then hbr b5))
                go_ret
                exact ⟨rfl, bb5⟩
            · have g3 : ((m1 : Int) == 0) = true := by rw [beq_iff_eq]; omega
              have hRf : R = false := by rw [HR2.out, Hno.out (fun h => by have := Hfi.out.1 h; omega)]; rfl
              subst hRf
              go_wp2_with (first
                              | (refine wpList_loadW (o := ⟨some 17, _, _, _, _, _⟩) 80 (.tmp 16) (by rfl) b (off + k * 2) (by rfl) aggRoute (by rfl) Hr2.out (by rfl) ?_)
                              | ((with_reducible show wpList _ _ _ (⟨none, Op.store _ _ (Operand.tmp 17), _, _, _, _⟩ :: _) _ _); refine wpList_storeA (o := ⟨none, _, _, _, _, _⟩) (by rfl) 80 (.tmp 6) (.tmp 17) (by rfl) wr.heap.size [.string S1, .string S2] (by rfl) (by rfl) aggRoute (Blk.new wr 80 [.string ByteArray.empty, .string ByteArray.empty]) (by rfl) (by rfl) (by intro u hu; simp at hu; rcases hu with rfl | rfl <;> rfl) bA (Nat.le_refl _) ?_; intro w5 h7 b5 _; obtain ⟨i0, i1⟩ := N0.out _ _ h7; have bb5 := Below.then hbr b5))
              go_ret
              exact ⟨rfl, bb5⟩
          · have g2 : (64 : Int) < (n1 : Int) := by omega
            have hRf : R = false := by rw [HR2.out, Hno.out (fun h => by have := Hfi.out.1 h; omega)]; rfl
            subst hRf
            go_wp2_with (first
                              | (refine wpList_loadW (o := ⟨some 17, _, _, _, _, _⟩) 80 (.tmp 16) (by rfl) b (off + k * 2) (by rfl) aggRoute (by rfl) Hr2.out (by rfl) ?_)
                              | ((with_reducible show wpList _ _ _ (⟨none, Op.store _ _ (Operand.tmp 17), _, _, _, _⟩ :: _) _ _); refine wpList_storeA (o := ⟨none, _, _, _, _, _⟩) (by rfl) 80 (.tmp 6) (.tmp 17) (by rfl) wr.heap.size [.string S1, .string S2] (by rfl) (by rfl) aggRoute (Blk.new wr 80 [.string ByteArray.empty, .string ByteArray.empty]) (by rfl) (by rfl) (by intro u hu; simp at hu; rcases hu with rfl | rfl <;> rfl) bA (Nat.le_refl _) ?_; intro w5 h7 b5 _; obtain ⟨i0, i1⟩ := N0.out _ _ h7; have bb5 := Below.then hbr b5))
            go_ret
            exact ⟨rfl, bb5⟩
        · have f11 : n1 % 2 = 1 := by omega
          rw [f11] at hm
          have hRf : R = false := by rw [HR2.out, Hno.out (fun h => by have := Hfi.out.1 h; omega)]; rfl
          subst hRf
          go_wp2_with (first
                              | (refine wpList_loadW (o := ⟨some 17, _, _, _, _, _⟩) 80 (.tmp 16) (by rfl) b (off + k * 2) (by rfl) aggRoute (by rfl) Hr2.out (by rfl) ?_)
                              | ((with_reducible show wpList _ _ _ (⟨none, Op.store _ _ (Operand.tmp 17), _, _, _, _⟩ :: _) _ _); refine wpList_storeA (o := ⟨none, _, _, _, _, _⟩) (by rfl) 80 (.tmp 6) (.tmp 17) (by rfl) wr.heap.size [.string S1, .string S2] (by rfl) (by rfl) aggRoute (Blk.new wr 80 [.string ByteArray.empty, .string ByteArray.empty]) (by rfl) (by rfl) (by intro u hu; simp at hu; rcases hu with rfl | rfl <;> rfl) bA (Nat.le_refl _) ?_; intro w5 h7 b5 _; obtain ⟨i0, i1⟩ := N0.out _ _ h7; have bb5 := Below.then hbr b5))
          go_ret
          exact ⟨rfl, bb5⟩
      · obtain rfl : k = n := by omega
        have htk : l.take k = l := by rw [Hnl.out, List.take_length]
        rw [htk] at hall
        have hR3 : R = sameP t (grw 65 l) := by rw [HR2.out, hall, Bool.true_and]
        have hfi : ∀ r ∈ l, fineP 0 r := fun r hr => by unfold fineB at hall; rw [List.all_eq_true] at hall; exact of_decide_eq_true (hall r hr)
        have hsm : Sml l := fun r hr => by obtain ⟨_, h1, _, h2⟩ := hfi r hr; exact ⟨by omega, by omega⟩
        have hok := ord_ok 65 l Hor.out (fun r hr => by obtain ⟨_, h1, _, h2⟩ := hfi r hr; omega)
        have hrw := hrow.below hwr
        have cg := fun (u : World) (hu : Below wr.heap.size wr u) => grown_any 65 l a k c u Hnl.out.symm hn6 hsm hok (hrw.below hu)
        have hz3 := hz2.kept hwr
        have Cg := Lib.hid cg
        have HKl := Lib.hid hKl
        have Hz3 := Lib.hid hz3
        have Hbr := Lib.hid hbr
        have HR3 := Lib.hid hR3
        clear htk hall hfi hsm hok hrw cg hz3 hlt hR3
        go_wp2_with fail
        refine wp_region_typed wr 7 (by kernel_rfl) (by kernel_rfl) (Below.refl _ _) ?_; simp only [List.take_succ_cons, List.take_zero, List.take_nil]
        iterate 2 (refine wpX_step (by rfl) (fun K hK => ?_); go_simp; first | (refine hK _ ?_; clear hK K) | (apply Exists.intro; refine ⟨fun _ => ?_, hK _ ?_⟩; fail; clear hK K))
        (refine wpX_step (by rfl) (fun K hK => ?_); rw [if_pos (by rfl)]; refine ⟨_, fun u => const_loadm _ (.tmp 1) (by rfl) _ _ (by rfl) aggNode HKl.out (rangeAt.ext (Blk.all0 Hz3.out) u), hK _ ?_⟩; clear hK K; simp only [Act.put, List.setIfInBounds_toArray, List.set_cons_zero, List.set_cons_succ])
        (refine wpX_step (by rfl) (fun K hK => ?_); go_simp; first | (refine hK _ ?_; clear hK K) | (apply Exists.intro; refine ⟨fun _ => ?_, hK _ ?_⟩; fail; clear hK K))
        refine wpX_rel 46 (NdT 0 (grw 65 l)) rfl (of_decide_eq_true rfl) (NdT.mono _ _) (fun w6 hw6 => ?_) ?_
        · change forallRel w6 [] _ _
          simp only [forallRel]
          refine ⟨rfl, ?_⟩
          go_simp
          refine (Cg.out w6 hw6).mono ?_
          rintro e w7 ⟨s, rfl, os, es, b7⟩
          exact ⟨_, rfl, ⟨s, rfl, os.lower (Nat.zero_le _), es⟩, b7⟩
        refine wpX_eq (.bool R) (fun w6 hw6 => ?_) ?_
        · change forallRel w6 [(46, _)] _ _
          rintro v46 ⟨s, rfl, os, es⟩
          have cs := Csame.out s w6 (Below.then Hbr.out hw6) os.is
          rw [es, ← HR3.out] at cs
          simp only [forallRel]
          refine ⟨rfl, ?_⟩
          go_simp
          exact cs.mono fun e w' q => ⟨_, q.1, rfl, q.2⟩
        (refine wpX_step (by rfl) (fun K hK => ?_); go_simp; first | (refine hK _ ?_; clear hK K) | (apply Exists.intro; refine ⟨fun _ => ?_, hK _ ?_⟩; fail; clear hK K))
        refine wpX_nil ?_
        intro u2 hb2 v46 _
        change wpList _ _ _ [_] _ _
        simp only [Act.put, List.setIfInBounds_toArray, List.set_cons_zero, List.set_cons_succ]
        go_wp2_with fail
        go_ret
        exact ⟨rfl, Below.then hbr hb2⟩
theorem gright_any (t : Nd) (w : World) (hI : IsNd w t) (hb : bulkN t ≤ 1048576) : Calls Try.prog 26 #[.agg (ndcells t).toArray] w fun e w' => e = .returned (.bool (grightP t)) ∧ Below w.heap.size w w' :=
  gright_big t w hI (by omega) (fun _ h => Nat.le_trans (rts_len h) hb)
end Go.Proofs.Ytljbbpcnoajfeaa
