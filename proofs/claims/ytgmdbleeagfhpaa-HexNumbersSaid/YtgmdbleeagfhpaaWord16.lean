/- word.product, word.Mul. -/
import Derived.Test.YtgmdbleeagfhpaaWord15
set_option linter.unusedSimpArgs false
set_option linter.unusedVariables false
namespace Go.Proofs.Ytgmdbleeagfhpaa
open Go.RowKit
theorem agg8 : Agg Try.prog 83 8 := ⟨_, Try.underlying83, rfl, by kernel_rfl⟩
/-- parts as cells -/
def pcs (D : List Nat) : List Value := D.map fun (d : Nat) => .int .u64 (d : Int)
theorem pcs_len (D : List Nat) : (pcs D).length = D.length := by simp [pcs]
theorem pcs_at (D : List Nat) (k : Nat) (h : k < D.length) : (pcs D)[k]? = some (.int .u64 (D[k] : Int)) := by simp [pcs, h]
theorem pcs_set (D : List Nat) (k x : Nat) : (pcs D).set k (.int .u64 (x : Int)) = pcs (D.set k x) := by simp [pcs, List.map_set]
theorem pcs_one (D : List Nat) : ∀ u ∈ pcs D, u.oneCell' = true := by
  intro u hu; obtain ⟨x, _, rfl⟩ := List.mem_map.1 hu; rfl
def z8 : List Value := pcs [0, 0, 0, 0, 0, 0, 0, 0]
/-- What the parts are behind i parts of N and j of M. -/
structure Parts (N M i j c : Nat) (D : List Nat) : Prop where
  len : D.length = 8
  lt : ∀ d ∈ D, d < B64
  val : valL D + c * B64 ^ (i + j) = prod N M i j
  zero : ∀ k (h : k < D.length), i + 4 ≤ k → D[k] = 0
  clt : c < B64
theorem Parts.step {N M i j c : Nat} {D : List Nat} (h : Parts N M i j c D) (hi : i < 4) (hj : j < 4) (x c2 : Nat) (hx : x < B64) (hc2 : c2 < B64) (hs : c2 * B64 + x = lim N i * lim M j + D[i + j]'(by rw [h.len]; omega) + c) :
    Parts N M i (j + 1) c2 (D.set (i + j) x) := by
  refine ⟨by rw [List.length_set]; exact h.len, fun d hd => ?_, prod_put N M i j c x D c2 (by rw [h.len]; omega) h.val hs, fun k hk hle => ?_, hc2⟩
  · rcases List.mem_or_eq_of_mem_set hd with h1 | h1
    · exact h.lt d h1
    · rw [h1]; exact hx
  · rw [List.getElem_set, if_neg (by omega)]; exact h.zero k (by simpa using hk) hle
theorem Parts.row {N M i c : Nat} {D : List Nat} (hM : M < W256) (h : Parts N M i 4 c D) (hi : i < 4) : Parts N M (i + 1) 0 0 (D.set (i + 4) c) := by
  have hl := h.len
  refine ⟨by rw [List.length_set]; exact h.len, fun d hd => ?_, ?_, fun k hk hle => ?_, by unfold B64; omega⟩
  · rcases List.mem_or_eq_of_mem_set hd with h1 | h1
    · exact h.lt d h1
    · rw [h1]; exact h.clt
  · have h1 := valL_set D (i + 4) c (by omega)
    rw [h.zero (i + 4) (by omega) (Nat.le_refl _)] at h1
    have h2 := h.val
    rw [prod_row N M i hM] at h2
    omega
  · rw [List.getElem_set, if_neg (by omega)]; exact h.zero k (by simpa using hk) (by omega)
theorem Parts.start (N M : Nat) : Parts N M 0 0 0 [0, 0, 0, 0, 0, 0, 0, 0] :=
  ⟨rfl, fun d hd => by simp at hd; rw [hd]; unfold B64; omega, by rw [prod_zero]; simp [valL, Nat.mod_one], fun k hk _ => by
    simp only [List.length_cons, List.length_nil] at hk
    rcases (show k = 0 ∨ k = 1 ∨ k = 2 ∨ k = 3 ∨ k = 4 ∨ k = 5 ∨ k = 6 ∨ k = 7 from by omega) with rfl | rfl | rfl | rfl | rfl | rfl | rfl | rfl <;> rfl, by unfold B64; omega⟩
/-- A row behind: no carry. -/
theorem Parts.next {N M i : Nat} {D : List Nat} (h : Parts N M i 0 0 D) : valL D = prod N M i 0 := by have := h.val; simpa using this
theorem part_word (N k : Nat) (hk : k < 4) (w : World) : (part 22 (wcs N).toArray k).run Try.prog w = .ok (.int .u64 (lim N k : Int)) w := by
  have hl : k < (limI N).length := by simpa [limI] using hk
  have h1 := run_part_int (P := Try.prog) w (e := 22) (k := .u64) (by kernel_rfl) (limI N) k hl
  have h2 : (limI N)[k] = (lim N k : Int) := by
    rcases (show k = 0 ∨ k = 1 ∨ k = 2 ∨ k = 3 from by omega) with rfl | rfl | rfl | rfl <;> simp [limI]
  rw [h2] at h1; exact h1
theorem run_index_agg {P : Program} {t e : TypeId} {n : Nat} (ht : P.underlying t = some (.array n e)) (hs : (P.info? e).map (·.size) = some 1) (cs : Array Value) (k : Nat) (hk : k < n) (w : World) {v : Value} (ik : IntKind)
    (hp : (part e cs k).run P w = .ok v w) : (Instr.index t (.agg cs) (.int ik (k : Int))).run P w = .ok v w := by
  cases hq : P.info? e with
  | none => simp [hq] at hs
  | some q =>
    have hs1 : q.size = 1 := by simpa [hq] using hs
    have hsz : (sizeOf e).run P w = .ok 1 w := by simp [sizeOf, typeInfo, hq, hs1]
    unfold Instr.index
    simp only [asIntOf, Sem.run_bind, Sem.run_pure, run_underlying ht, Result.andThen_ok]
    rw [if_pos (by omega)]
    simp only [Sem.run_bind, hsz, Result.andThen_ok]
    simpa using hp
theorem index_word (N k : Nat) (hk : k < 4) (w : World) : (Instr.index 24 (.agg (wcs N).toArray) (.int .i64 (k : Int))).run Try.prog w = .ok (.int .u64 (lim N k : Int)) w :=
  run_index_agg (n := 4) (e := 22) (by kernel_rfl) (by kernel_rfl) _ k hk w .i64 (part_word N k hk w)
set_option maxHeartbeats 1000000 in
set_option maxRecDepth 100000 in
theorem product_any (N M : Nat) (hN : N < W256) (hM : M < W256) (w : World) :
    Calls Try.prog 74 #[wv N, wv M] w fun e w' => ∃ D : List Nat, e = .returned (.agg (pcs D).toArray) ∧ D.length = 8 ∧ (∀ d ∈ D, d < B64) ∧ valL D = N * M ∧ Below w.heap.size w w' := by
  obtain ⟨w2, hw2⟩ : ∃ w2, w2 = (((w.alloc (.cells (wcs N).toArray 24)).alloc (.cells (wcs M).toArray 24)).alloc (.cells z8.toArray 83)).alloc (.cells z8.toArray 83) := ⟨_, rfl⟩
  have hb0 : Blk 24 w2 w.heap.size (wcs N) := by rw [hw2]; exact (((boxW w N).alloc _).alloc _).alloc _
  have hd0 : Blk 24 w2 (w.heap.size + 1) (wcs M) := by
    have := Blk.new (w.alloc (.cells (wcs N).toArray 24)) 24 (wcs M)
    rw [hw2]; simpa using ((this.alloc (.cells z8.toArray 83)).alloc (.cells z8.toArray 83))
  have hz0 : Blk 83 w2 (w.heap.size + 2) z8 := by
    have := Blk.new ((w.alloc (.cells (wcs N).toArray 24)).alloc (.cells (wcs M).toArray 24)) 83 z8
    rw [hw2]; simpa using (this.alloc (.cells z8.toArray 83))
  have ho0 : Blk 83 w2 (w.heap.size + 3) z8 := by
    have := Blk.new (((w.alloc (.cells (wcs N).toArray 24)).alloc (.cells (wcs M).toArray 24)).alloc (.cells z8.toArray 83)) 83 z8
    rw [hw2]; simpa using this
  have hbel0 : Below w.heap.size w w2 := by rw [hw2]; exact ((((Below.refl _ _).alloc (Nat.le_refl _) _).alloc (by simp) _).alloc (by simp; omega) _).alloc (by simp; omega) _
  show Calls Try.prog 74 #[.agg (wcs N).toArray, .agg (wcs M).toArray] w _
  have Hw2 := Lib.hid hw2
  clear hw2
  go_enter Try.func74, Try.ntmps74
  go_wp2_with (first
    | (rw [show (((w.alloc (.cells (wcs N).toArray 24)).alloc (.cells (wcs M).toArray 24)).alloc (.cells #[.int .u64 0, .int .u64 0, .int .u64 0, .int .u64 0, .int .u64 0, .int .u64 0, .int .u64 0, .int .u64 0] 83)).alloc (.cells #[.int .u64 0, .int .u64 0, .int .u64 0, .int .u64 0, .int .u64 0, .int .u64 0, .int .u64 0, .int .u64 0] 83) = w2 from by rw [Hw2.out]; rfl]; (refine wpList_loadA (o := ⟨some 14, _, _, _, _, _⟩) (by rfl) 24 (.tmp 2) (by rfl) (w.heap.size) (by rfl) aggWord hb0 (wcs_len _) ?_)))
  clear Hw2
  go_loopw [15] (fun ix wr => ∃ (i : Nat) (D : List Nat), i ≤ 4 ∧ ix = .int .i64 (i : Int) ∧ Parts N M i 0 0 D ∧ Blk 24 wr w.heap.size (wcs N) ∧ Blk 24 wr (w.heap.size + 1) (wcs M) ∧ Blk 83 wr (w.heap.size + 2) z8 ∧ Blk 83 wr (w.heap.size + 3) (pcs D) ∧ Below w.heap.size w wr) (fun i _ => 4 - (intOf i).toNat)
  case atStart => exact ⟨0, [0, 0, 0, 0, 0, 0, 0, 0], by omega, rfl, Parts.start N M, hb0, hd0, hz0, ho0, hbel0⟩
  case round =>
    clear hb0 hd0 hz0 ho0 hbel0
    obtain ⟨i, D, hi, rfl, hD, hb, hd, hz, ho, hbel⟩ := hrel
    by_cases hlt : i < 4
    · have hii : (i : Int) < 4 := by omega
      have hpN := index_word N i hlt
      go_wp2_with (first | (refine wpList_loadA (o := ⟨some 19, _, _, _, _, _⟩) (by rfl) 24 (.tmp 3) (by rfl) (w.heap.size + 1) (by rfl) aggWord hd (wcs_len _) ?_))
      clear hpN
      go_loopw [8, 20] (fun cv jx wr => ∃ (j c : Nat) (D : List Nat), j ≤ 4 ∧ jx = .int .i64 (j : Int) ∧ cv = .int .u64 (c : Int) ∧ Parts N M i j c D ∧ Blk 24 wr w.heap.size (wcs N) ∧ Blk 24 wr (w.heap.size + 1) (wcs M) ∧ Blk 83 wr (w.heap.size + 2) z8 ∧ Blk 83 wr (w.heap.size + 3) (pcs D) ∧ Below w.heap.size w wr) (fun _ j _ => 4 - (intOf j).toNat)
      case atStart => exact ⟨0, 0, D, by omega, rfl, rfl, hD, hb, hd, hz, ho, hbel⟩
      case round =>
        clear hb hd hz ho hbel hD
        obtain ⟨j, c, D, hj, rfl, rfl, hD, hb, hd, hz, ho, hbel⟩ := hrel
        by_cases hjlt : j < 4
        · have hjj : (j : Int) < 4 := by omega
          have hpM := index_word M j hjlt
          obtain ⟨k, hk⟩ : ∃ k, k = i + j := ⟨_, rfl⟩
          have hk8 : k < D.length := by rw [hD.len]; omega
          have hkk : (k : Int) < 8 := by omega
          have ek : (i : Int) + (j : Int) = (k : Int) := by omega
          obtain ⟨p, hp⟩ : ∃ p, p = D[k] := ⟨_, rfl⟩
          have hpB : p < B64 := by rw [hp]; exact hD.lt _ (List.getElem_mem _)
          have hcell := ho.cell k
          rw [pcs_at D k hk8, ← hp] at hcell
          have hxB : lim N i < B64 := lim_lt N i
          have hyB : lim M j < B64 := lim_lt M j
          have hcB := hD.clt
          obtain ⟨s1, s2⟩ := part_step (lim N i) (lim M j) p c hxB hyB hpB hcB
          have hmul := fun w1 => mul64_any (lim N i) (lim M j) hxB hyB w1
          have hnext := fun x c2 h1 h2 h3 => hD.step hlt hjlt x c2 h1 h2 h3
          simp only [← hk, ← hp] at hnext
          obtain ⟨h0, eh0⟩ : ∃ h0, h0 = lim N i * lim M j / B64 := ⟨_, rfl⟩
          obtain ⟨l0, el0⟩ : ∃ l0, l0 = lim N i * lim M j % B64 := ⟨_, rfl⟩
          have eh0' : lim N i * lim M j / 18446744073709551616 = h0 := eh0.symm
          have el0' : lim N i * lim M j % 18446744073709551616 = l0 := el0.symm
          rw [eh0', el0'] at hmul
          rw [← eh0, ← el0] at s1 s2
          have hl0 : l0 < B64 := by rw [el0]; exact Nat.mod_lt _ (by unfold B64; omega)
          obtain ⟨l1, el1⟩ : ∃ l1, l1 = (l0 + p) % B64 := ⟨_, rfl⟩
          obtain ⟨c1, ec1⟩ : ∃ c1, c1 = (l0 + p) / B64 := ⟨_, rfl⟩
          obtain ⟨l2, el2⟩ : ∃ l2, l2 = (l1 + c) % B64 := ⟨_, rfl⟩
          obtain ⟨c2, ec2⟩ : ∃ c2, c2 = (l1 + c) / B64 := ⟨_, rfl⟩
          rw [← ec1, ← el1, ← ec2] at s1 s2
          rw [← el2] at s2
          have r1 : ∀ w1 : World, (callFunc 116 #[.int .u64 (l0 : Int), .int .u64 (p : Int), .int .u64 0]).run Try.prog w1 = .ok (.value (.tuple #[.int .u64 (l1 : Int), .int .u64 (c1 : Int)])) w1 := fun w1 => by
            have := add64_run l0 p 0 (by omega) w1
            rw [Nat.add_zero, show (l0 + p) % 18446744073709551616 = l1 from el1.symm, show (l0 + p) / 18446744073709551616 = c1 from ec1.symm] at this
            exact this
          have r2 : ∀ w1 : World, (callFunc 116 #[.int .u64 (l1 : Int), .int .u64 (c : Int), .int .u64 0]).run Try.prog w1 = .ok (.value (.tuple #[.int .u64 (l2 : Int), .int .u64 (c2 : Int)])) w1 := fun w1 => by
            have := add64_run l1 c 0 (by omega) w1
            rw [Nat.add_zero, show (l1 + c) % 18446744073709551616 = l2 from el2.symm, show (l1 + c) / 18446744073709551616 = c2 from ec2.symm] at this
            exact this
          have hl2 : l2 < B64 := by rw [el2]; exact Nat.mod_lt _ (by unfold B64; omega)
          have hfin := hnext l2 (h0 + c1 + c2) hl2 s1 s2
          unfold B64 at s1
          have w1 : IntKind.u64.wrap ((h0 : Int) + (c1 : Int)) = ((h0 + c1 : Nat) : Int) := by rw [IntKind.wrap_u64]; omega
          have w2 : IntKind.u64.wrap ((h0 : Int) + (c1 : Int) + (c2 : Int)) = ((h0 + c1 + c2 : Nat) : Int) := by rw [IntKind.wrap_u64]; omega
          obtain ⟨y2, hy2⟩ := ho.has k (by rw [pcs_len]; exact hk8)
          have hf2 := ho.free k
          have hset := ho.set k (.int .u64 (l2 : Int))
          rw [pcs_set] at hset
          have hb' := hb.other ⟨w.heap.size + 3, k, none⟩ (by simp) (.int .u64 (l2 : Int))
          have hd' := hd.other ⟨w.heap.size + 3, k, none⟩ (by simp) (.int .u64 (l2 : Int))
          have hz' := hz.other ⟨w.heap.size + 3, k, none⟩ (by simp) (.int .u64 (l2 : Int))
          have hbel' := hbel.setCell (p := ⟨w.heap.size + 3, k, none⟩) (by simp) (.int .u64 (l2 : Int))
          have Hfin := Lib.hid hfin
          have Hmul := Lib.hid hmul
          clear s1 s2 hnext eh0 el0 eh0' el0' el1 ec1 el2 ec2 hfin hmul hp hpB hxB hyB hcB hl0 hl2 hk8 hk hD hb hd hz ho hbel
          go_wp2_with (go_at_call 117; refine (Hmul.out _).mono ?_; rintro e w3 ⟨rfl, rfl⟩)
          go_roundw
          case rel => exact ⟨j + 1, h0 + c1 + c2, D.set k l2, by omega, by go_num, by first | rfl | exact val_int w2, Hfin.out, hb', hd', hz', hset, hbel'⟩
          case measure => simp [intOf]; omega
        · obtain rfl : j = 4 := by omega
          obtain ⟨k, hk⟩ : ∃ k, k = i + 4 := ⟨_, rfl⟩
          have hk8 : k < D.length := by rw [hD.len]; omega
          have hkk : (k : Int) < 8 := by omega
          have ek : (i : Int) + 4 = (k : Int) := by omega
          have hrow := hD.row hM hlt
          rw [← hk] at hrow
          obtain ⟨y2, hy2⟩ := ho.has k (by rw [pcs_len]; exact hk8)
          have hf2 := ho.free k
          have hset := ho.set k (.int .u64 (c : Int))
          rw [pcs_set] at hset
          have hb' := hb.other ⟨w.heap.size + 3, k, none⟩ (by simp) (.int .u64 (c : Int))
          have hd' := hd.other ⟨w.heap.size + 3, k, none⟩ (by simp) (.int .u64 (c : Int))
          have hz' := hz.other ⟨w.heap.size + 3, k, none⟩ (by simp) (.int .u64 (c : Int))
          have hbel' := hbel.setCell (p := ⟨w.heap.size + 3, k, none⟩) (by simp) (.int .u64 (c : Int))
          clear hk8 hk hD hb hd hz ho hbel
          go_wp2
          go_roundw
          case rel => exact ⟨i + 1, D.set k c, by omega, by go_num, hrow, hb', hd', hz', hset, hbel'⟩
          case measure => simp [intOf]; omega
    · obtain rfl : i = 4 := by omega
      have hv := hD.next
      rw [prod_all N M hN] at hv
      have hl := hD.len
      have hB := hD.lt
      have Hv := Lib.hid hv
      have Hl := Lib.hid hl
      clear hv hl
      go_wp2_with (first
        | (refine wpList_loadA (o := ⟨some 64, _, _, _, _, _⟩) (by rfl) 83 (.tmp 5) (by rfl) (w.heap.size + 3) (by rfl) agg8 ho (by rw [pcs_len]; exact Hl.out) ?_)
        | (refine wpList_storeA (by rfl) 83 (.tmp 4) (.tmp 64) (by rfl) (w.heap.size + 2) (pcs D) (by rfl) (by rfl) agg8 hz (by rw [pcs_len]; exact Hl.out) (by rfl) (pcs_one _) (Below.refl _ _) (Nat.le_refl _) ?_; intro w7 hb7 b7 g7; have hbel7 := hbel.trans (b7.mono (by omega))))
      exact bodyPost_ret (results_blk rfl _ _ (w.heap.size + 2) agg8 hb7 (by rw [pcs_len]; exact Hl.out) rfl) rfl ⟨D, rfl, Hl.out, hB, Hv.out, hbel7⟩
theorem lim_mulN (N M k : Nat) (hk : k < 4) : lim (mulN N M) k = lim (N * M) k := by
  have := lim_below (N * M % W256) (N * M / W256) 32 4 k (by omega) hk
  rw [show N * M / W256 * 256 ^ 32 + N * M % W256 = N * M from by
    have := Nat.div_add_mod (N * M) W256
    rw [show (256 : Nat) ^ 32 = W256 from rfl, Nat.mul_comm]; exact this] at this
  unfold mulN; exact this.symm
theorem run_arrayAt {P : Program} {t e : TypeId} {n : Nat} (ht : P.underlying t = some (.array n e)) (a : Option Addr) (len c : Nat) (h : n ≤ len) (w : World) : (Instr.arrayAt t (.slice a len c)).run P w = .ok (.pointer a) w := by
  unfold Instr.arrayAt
  simp only [Sem.run_bind, run_underlying ht, Result.andThen_ok]
  rw [if_neg (by omega)]
  rfl
theorem product_l (N M : Nat) (hN : N < W256) (hM : M < W256) (w : World) :
    Calls Try.prog 74 #[.agg (wcs N).toArray, .agg (wcs M).toArray] w fun e w' => ∃ D : List Nat, e = .returned (.agg (pcs D).toArray) ∧ D.length = 8 ∧ (∀ d ∈ D, d < B64) ∧ valL D = N * M ∧ Below w.heap.size w w' := product_any N M hN hM w
set_option maxHeartbeats 400000 in
set_option maxRecDepth 100000 in
theorem mul_any (N M : Nat) (hN : N < W256) (hM : M < W256) (w : World) :
    Calls Try.prog 104 #[wv N, wv M] w fun e w' => e = .returned (wv (mulN N M)) ∧ Below w.heap.size w w' := by
  obtain ⟨hb0, hd0, hz0, hbel0⟩ := box3 w N M
  show Calls Try.prog 104 #[.agg (wcs N).toArray, .agg (wcs M).toArray] w _
  obtain ⟨P, hP⟩ : ∃ P, P = mulN N M := ⟨_, rfl⟩
  have hl := fun k hk => lim_mulN N M k hk
  rw [← hP] at hl
  have hc : ∀ (D : List Nat) (w3 : World) (g : Nat), Blk 83 w3 g (pcs D) → D.length = 8 → (∀ d ∈ D, d < B64) → valL D = N * M → ∀ k (hk : k < 4), w3.cell? ⟨g, k, none⟩ = some (.int .u64 (lim P k : Int)) := by
    intro D w3 g h3 h8 hB hv k hk
    rw [h3.cell, pcs_at D k (by omega), hl k hk, ← hv, lim_valL D k hB (by omega)]
  have hat := fun g w' => run_arrayAt (P := Try.prog) (t := 24) (e := 22) (n := 4) (by kernel_rfl) (some ⟨g, 0, none⟩) 4 8 (Nat.le_refl _) w'
  have Hc := Lib.hid hc
  have HP := Lib.hid hP
  clear hl hP hc
  go_enter Try.func104, Try.ntmps104
  go_wp2_with (first
    | (refine wpList_loadA (o := ⟨some 6, _, _, _, _, _⟩) (by rfl) 24 (.tmp 2) (by rfl) (w.heap.size) (by rfl) aggWord hb0 (wcs_len _) ?_)
    | (refine wpList_loadA (o := ⟨some 7, _, _, _, _, _⟩) (by rfl) 24 (.tmp 3) (by rfl) (w.heap.size + 1) (by rfl) aggWord hd0 (wcs_len _) ?_)
    | (go_at_call 74; (with_reducible refine (product_l N M hN hM _).mono ?_); rintro e w2 ⟨D, rfl, hD, hB, hv, b2⟩; have hz2 := hz0.kept b2; have hbel2 := hbel0.trans (b2.mono hbel0.size); have HD := Lib.hid hD; have Hv := Lib.hid hv; clear hD hv)
    | (refine wpList_storeA (by rfl) 83 (.tmp 5) (.tmp 8) (by rfl) w2.heap.size (pcs D) (by rfl) (by rfl) agg8 (Blk.new w2 83 z8) (by rw [pcs_len]; exact HD.out) (by rfl) (pcs_one _) (Below.alloc (Below.refl w2.heap.size w2) (Nat.le_refl _) _) (Nat.le_refl _) ?_; intro w3 h3 b3 _; have hz3 := hz2.kept b3; have hbel3 := hbel2.trans (b3.mono hbel2.size); have c0 := Hc.out D w3 _ h3 HD.out hB Hv.out 0 (by omega); have c1 := Hc.out D w3 _ h3 HD.out hB Hv.out 1 (by omega); have c2 := Hc.out D w3 _ h3 HD.out hB Hv.out 2 (by omega); have c3 := Hc.out D w3 _ h3 HD.out hB Hv.out 3 (by omega))
    | (refine wpList_storeA (by rfl) 24 (.tmp 4) (.tmp 11) (by rfl) (w.heap.size + 2) (wcs P) (by rfl) (by rfl) aggWord hz3 (wcs_len _) (by rfl) (wcs_one _) (Below.refl _ _) (Nat.le_refl _) ?_; intro w7 hb7 b7 g7; have hbel7 := hbel3.trans (b7.mono (by omega))))
  exact bodyPost_ret (results_blk rfl _ _ (w.heap.size + 2) aggWord hb7 (wcs_len _) rfl) rfl ⟨by rw [← HP.out]; rfl, hbel7⟩
end Go.Proofs.Ytgmdbleeagfhpaa
