/- slices.DeleteFunc at routes. -/
import Derived.Test.YtcgpjceopnfahaaPut18
import Derived.Test.YtcgpjceopnfahaaGrwA
set_option linter.unusedSimpArgs false
set_option linter.unusedVariables false
namespace Go.Proofs.Ytcgpjceopnfahaa
open Go.RowKit
theorem rflat_len (l : List Rt) : (l.flatMap rcells).length = l.length * 2 := flat_len (f := rcells) (size := 2) (fun _ => rfl) l
theorem rt_cells {e : TypeId} {w : World} {B g n c : Nat} {l : List Rt} (h : OwnOf rcells 2 e w B (.slice (some ⟨g, 0, none⟩) n c) l) : ∃ R, Blk e w g (l.flatMap rcells ++ R) ∧ n = l.length ∧ n ≤ c ∧ c ≤ maxLen ∧ B ≤ g ∧ (l.flatMap rcells ++ R).length = c * 2 := by
  obtain ⟨h1, h2⟩ := h
  rcases h2 with ⟨h2, h3⟩ | ⟨g', cap, cur, h2, h3, h4, h5, h6, h7, h8⟩
  · simp only [Value.slice.injEq] at h2; cases h2.1
  · simp only [Value.slice.injEq, Option.some.injEq, Addr.mk.injEq, and_true] at h2
    obtain ⟨rfl, rfl, rfl⟩ := h2
    have e1 : cur.toList = l.flatMap rcells ++ cur.toList.drop (l.flatMap rcells).length := by
      conv => lhs; rw [← List.take_append_drop (l.flatMap rcells).length cur.toList]
      rw [h1, h8, ← h1]
    refine ⟨cur.toList.drop (l.flatMap rcells).length, ?_, rfl, h5, h6, h3, ?_⟩
    · unfold Blk; rw [← e1]; simpa using h4
    · rw [← e1, Array.length_toList, h7]
theorem cells_rts {e : TypeId} {w : World} {B g n c : Nat} {l : List Rt} {R : List Value} (h : Blk e w g (l.flatMap rcells ++ R)) (hc : (l.flatMap rcells ++ R).length = c * 2) (hn : n ≤ c) (hB : B ≤ g) (hl : l.length = n) (hm : c ≤ maxLen) : OwnOf rcells 2 e w B (.slice (some ⟨g, 0, none⟩) n c) l := by
  subst hl
  refine ⟨rflat_len l, .inr ⟨g, c, (l.flatMap rcells ++ R).toArray, rfl, hB, h, hn, hm, by simpa using hc, ?_⟩⟩
  rw [List.take_left' (rflat_len l)]
/-- a part of a row of one's own is written -/
theorem rt_puts {e : TypeId} {w : World} {B g n c : Nat} {A X Y Z : List Rt} (h : OwnOf rcells 2 e w B (.slice (some ⟨g, 0, none⟩) n c) (A ++ X ++ Z)) (hl : X.length = Y.length) : OwnOf rcells 2 e (w.setCells g (A.length * 2) (Y.flatMap rcells)) B (.slice (some ⟨g, 0, none⟩) n c) (A ++ Y ++ Z) := by
  obtain ⟨R, hb, hn, hnc, hm, hB, hc⟩ := rt_cells h
  have hs := hb.sets (Y.flatMap rcells) (A.length * 2)
  have e1 : (A ++ X ++ Z).flatMap rcells ++ R = A.flatMap rcells ++ (X.flatMap rcells ++ (Z.flatMap rcells ++ R)) := by simp
  have e2 : (A ++ Y ++ Z).flatMap rcells ++ R = A.flatMap rcells ++ (Y.flatMap rcells ++ (Z.flatMap rcells ++ R)) := by simp
  rw [e1, ← rflat_len A, setsL_app _ _ (by rw [rflat_len, rflat_len, hl]), ← e2] at hs
  rw [← rflat_len A]
  refine cells_rts hs ?_ hnc hB ?_ hm
  · rw [e1] at hc
    rw [e2]
    simp only [List.length_append, rflat_len] at hc ⊢
    rw [hl] at hc
    exact hc
  · rw [hn]; simp [hl]
/-- the first ones of a row of one's own -/
theorem rt_cut {e : TypeId} {w : World} {B g n c : Nat} {A Z : List Rt} (h : OwnOf rcells 2 e w B (.slice (some ⟨g, 0, none⟩) n c) (A ++ Z)) : OwnOf rcells 2 e w B (.slice (some ⟨g, 0, none⟩) A.length c) A := by
  obtain ⟨R, hb, hn, hnc, hm, hB, hc⟩ := rt_cells h
  rw [List.flatMap_append, List.append_assoc] at hb hc
  exact cells_rts hb hc (by rw [hn] at hnc; simp at hnc; omega) hB rfl hm
theorem rt_there {e : TypeId} {w : World} {B g n c : Nat} {l : List Rt} (h : OwnOf rcells 2 e w B (.slice (some ⟨g, 0, none⟩) n c) l) (j : Nat) (hj : j < n * 2) : (w.cell? ⟨g, j, none⟩).isSome = true ∧ w.frozen? ⟨g, j, none⟩ = false := by
  obtain ⟨R, hb, hn, hnc, hm, hB, hc⟩ := rt_cells h
  refine ⟨?_, hb.free _⟩
  rw [hb.cell, List.getElem?_eq_getElem (by rw [hc]; omega)]
  rfl
theorem rt_clear (g i n c : Nat) (hi : i < n) (u : World) (hth : ∀ j, i * 2 ≤ j → j < n * 2 → (u.cell? ⟨g, j, none⟩).isSome = true ∧ u.frozen? ⟨g, j, none⟩ = false) (ty : TypeId) : (Builtin.clear_ #[55] ty #[.slice (some ⟨g, i * 2, none⟩) (n - i) (c - i)]).run Try.prog u = .ok (.tuple #[]) (u.setCells g (i * 2) ((List.replicate (n - i) (([], []) : Rt)).flatMap rcells)) := by
  have hzc : (Builtin.zeroCells (Value.agg #[.string ByteArray.empty, .string ByteArray.empty]).cells (n - i)).toList = (List.replicate (n - i) (([], []) : Rt)).flatMap rcells := by
    generalize n - i = m
    apply List.ext_getElem?
    intro j
    have hr : (List.replicate m (([], []) : Rt)).flatMap rcells = List.replicate (m * 2) (Value.string ByteArray.empty) := by
      induction m with
      | zero => rfl
      | succ m ih =>
        rw [List.replicate_succ, List.flatMap_cons, ih, show (m + 1) * 2 = 2 + m * 2 by omega, ← List.replicate_append_replicate]
        rfl
    rw [hr]
    by_cases hj : j < m * 2
    · rw [List.getElem?_replicate, if_pos hj]
      simp only [Builtin.zeroCells, Value.cells]
      have h2 : j % 2 = 0 ∨ j % 2 = 1 := by omega
      rcases h2 with h2 | h2 <;> simp [hj, h2]
    · rw [List.getElem?_replicate, if_neg hj]
      simp [Builtin.zeroCells, Value.cells]
      omega
  have hst := run_storeCells_cells (P := Try.prog) g (i * 2) ((List.replicate (n - i) (([], []) : Rt)).flatMap rcells) 0 u
    (fun j hj => by rw [rflat_len, List.length_replicate] at hj; exact (hth (i * 2 + 0 + j) (by omega) (by omega)).1)
    (fun j hj => by rw [rflat_len, List.length_replicate] at hj; exact (hth (i * 2 + 0 + j) (by omega) (by omega)).2)
    (fun v hv => by
      obtain ⟨r, _, hr⟩ := List.mem_flatMap.1 hv
      simp only [rcells, List.mem_cons, List.not_mem_nil, or_false] at hr
      rcases hr with rfl | rfl <;> rfl)
  simp only [Nat.add_zero] at hst
  have hv : ∀ w, (zeroValue 69).run Try.prog w = .ok (.agg #[.string ByteArray.empty, .string ByteArray.empty]) w := fun w => by kernel_rfl
  obtain ⟨m, hm⟩ : ∃ m, n - i = m + 1 := ⟨n - i - 1, by omega⟩
  rw [hm] at hzc hst ⊢
  simp [Builtin.clear_, run_underlying elRt.ht, hv, hzc, hst]
theorem rt_from (g n c i : Nat) (hi : i < n) (hnc : n ≤ c) (x : Int) (hx : x = i) (k : IntKind) (w : World) : (Instr.slice 55 (.slice (some ⟨g, 0, none⟩) n c) (some (.int k x)) none none).run Try.prog w = .ok (.slice (some ⟨g, i * 2, none⟩) (n - i) (c - i)) w := by
  subst hx
  rw [run_slice_l (P := Try.prog) w (t := 55) (a := some ⟨g, 0, none⟩) (len := n) (cap := c) (by kernel_rfl) k (i : Int) (by omega) (by omega)]
  rw [show (sizeOf (Try.prog.elem 55)).run Try.prog w = .ok 2 w from by kernel_rfl]
  simp only [Result.andThen_ok, sliced, Int.toNat_natCast, if_neg (show ¬ c = i by omega)]
  simp [Addr.add]
  try omega
theorem rt_to (g n c i : Nat) (hi : i ≤ n) (hnc : n ≤ c) (x : Int) (hx : x = i) (k : IntKind) (w : World) : (Instr.slice 55 (.slice (some ⟨g, 0, none⟩) n c) none (some (.int k x)) none).run Try.prog w = .ok (.slice (some ⟨g, 0, none⟩) i c) w := by
  subst hx
  rw [run_slice_h (P := Try.prog) w (t := 55) (a := some ⟨g, 0, none⟩) (len := n) (cap := c) (by kernel_rfl) k (i : Int) (by omega) (by omega)]
  rw [show (sizeOf (Try.prog.elem 55)).run Try.prog w = .ok 2 w from by kernel_rfl]
  simp only [Result.andThen_ok, sliced, Int.toNat_natCast]
  split <;> simp [Addr.add]
theorem drop_same {A X Y Z : List Rt} (h : X.length = Y.length) (m : Nat) (hm : A.length + X.length ≤ m) : (A ++ X ++ Z).drop m = (A ++ Y ++ Z).drop m := by
  rw [List.drop_append, List.drop_append (l₁ := A ++ Y), show (A ++ X).drop m = [] from List.drop_eq_nil_of_le (by simp; omega), show (A ++ Y).drop m = [] from List.drop_eq_nil_of_le (by simp; omega)]
  congr 2
  simp [h]
def keepR (p : List UInt8) (l : List Rt) : List Rt := l.filter fun r => decide (r.1 ≠ p)
set_option maxHeartbeats 4000000 in
set_option maxRecDepth 100000 in
theorem rdel_any (v : Value) (l : List Rt) (hN : l.length ≤ 1000000000) (p : List UInt8) (PB : Nat) (W0 w : World) (hp : W0.cell? ⟨PB, 0, none⟩ = some (.string ⟨p.toArray⟩)) (h0 : Below W0.heap.size W0 w) (h : OwnOf rcells 2 69 w W0.heap.size v l) :
    Calls Try.prog 50 #[v, .func (.func 52) #[] #[.pointer (some ⟨PB, 0, none⟩)]] w fun e w' => ∃ v', e = .returned v' ∧ OwnOf rcells 2 69 w' W0.heap.size v' (keepR p l) ∧ Below W0.heap.size W0 w' := by
  obtain ⟨a, c, rfl, hcm⟩ := h.form
  obtain ⟨n, hn⟩ : ∃ n, n = l.length := ⟨_, rfl⟩
  rw [← hn] at h ⊢
  have hPB : PB < W0.heap.size := World.block_lt_of_cell? W0 _ hp
  have hent := enters_rc
  have ci := ridx_any a n c l hn.symm (by omega) p PB w h.row (by rw [h0.cell hPB]; exact hp)
  have cc := fun (r : Rt) (u : World) (hu : Below W0.heap.size W0 u) => rc_any r p PB u (by rw [hu.cell hPB]; exact hp)
  have Cc := Lib.hid cc
  have Ci := Lib.hid ci
  have Hn := Lib.hid hn
  have H := Lib.hid h
  have hn9 : n ≤ 1000000000 := by omega
  clear cc hp ci h hN hn
  go_enter Try.func50, Try.ntmps50
  go_wp2_with (go_at_call 77; (with_reducible refine Ci.out.mono ?_); rintro e w2 ⟨x, rfl, b2, hx⟩; rcases hx with ⟨rfl, hnone⟩ | ⟨i, hi, rfl, hat, hbef⟩)
  · go_ret
    exact ⟨_, rfl, by rw [show keepR p l = l from List.filter_eq_self.2 (fun r hr => by simpa using hnone r hr)]; exact H.out.kept b2, Below.then h0 b2⟩
  · have own2 := H.out.kept b2
    obtain ⟨g, rfl⟩ : ∃ g, a = some ⟨g, 0, none⟩ := by
      have hl0 : 0 < l.length := by omega
      rcases own2.2 with ⟨h2, h3⟩ | ⟨g', cap, cur, h2, _⟩
      · omega
      · simp only [Value.slice.injEq] at h2; exact ⟨g', h2.1⟩
    have hgB : W0.heap.size ≤ g := own2.lt g rfl
    have b02 := Below.then h0 b2
    have hin : i < n := by rw [Hn.out]; exact hi
    have hwi0 : wrap64 ((i : Int) + 1) = ((i + 1 : Nat) : Int) := by rw [IntWalk.wrap64_in _ (by omega)]; omega
    have hi1 : ((i : Int) == -1) = false := by rw [beq_eq_false_iff_ne]; omega
    have htk0 : l.take i = keepR p (l.take (i + 1)) := by
      rw [List.take_succ_eq_append_getElem hi]
      unfold keepR
      rw [List.filter_append, List.filter_eq_self.2 (fun r hr => by simpa using hbef r hr)]
      simp [hat]
    have Htk0 := Lib.hid htk0
    have hnc : n ≤ c := own2.row.fits.2.1
    clear hat hbef htk0 h0 b2 Ci
    go_wp2_with fail
    go_loopw [5, 6, 7] (fun ix jx _ wr => ∃ (i j : Nat) (L : List Rt), i < j ∧ j ≤ n ∧ ix = .int .i64 (i : Int) ∧ jx = .int .i64 (j : Int) ∧ OwnOf rcells 2 69 wr W0.heap.size (.slice (some ⟨g, 0, none⟩) n c) L ∧ L.take i = keepR p (l.take j) ∧ L.drop j = l.drop j ∧ L.length = n ∧ Below W0.heap.size W0 wr) (fun _ jx _ _ => n - (intOf jx).toNat)
    case atStart => exact ⟨i, i + 1, l, by omega, by omega, rfl, by rw [hwi0], own2, Htk0.out, rfl, Hn.out.symm, b02⟩
    case round =>
      clear hi hin hwi0 hi1 Htk0 own2 b02
      obtain ⟨i, j, L, hij, hjn, rfl, rfl, own, htk, hdr, hLl, hb⟩ := hrel
      obtain ⟨wo, rfl⟩ : ∃ x, x = wr := ⟨wr, rfl⟩
      by_cases hlt : j < n
      · have hki : (j : Int) < (n : Int) := by omega
        have hii : (i : Int) < (n : Int) := by omega
        have hjl : j < L.length := by omega
        have hjl' : j < l.length := by have := Hn.out; omega
        have hLj : L[j] = l[j] := by
          have h1 : L[j]? = l[j]? := by
            have e1 : (L.drop j)[0]? = (l.drop j)[0]? := by rw [hdr]
            simpa using e1
          rw [List.getElem?_eq_getElem hjl, List.getElem?_eq_getElem hjl'] at h1
          exact Option.some.inj h1
        obtain ⟨b1, o1, e1, r1⟩ := RowOf.range (f := rcells) (size := 2) (fun _ => rfl) own.row j hjl
        simp only [Option.some.injEq, Addr.mk.injEq, and_true] at e1
        obtain ⟨rfl, rfl⟩ := e1
        rw [hLj, Nat.zero_add] at r1
        have hca := Cc.out l[j]
        have htj : l.take (j + 1) = l.take j ++ [l[j]] := List.take_succ_eq_append_getElem hjl'
        have hdj : L.drop (j + 1) = l.drop (j + 1) := by
          have := congrArg (List.drop 1) hdr
          simpa [List.drop_drop] using this
        have hwj : IntKind.i64.wrap ((j : Int) + 1) = ((j + 1 : Nat) : Int) := by rw [IntWalk.i64_in _ (by omega)]; omega
        have hwi : IntKind.i64.wrap ((i : Int) + 1) = ((i + 1 : Nat) : Int) := by rw [IntWalk.i64_in _ (by omega)]; omega
        obtain ⟨q, hq⟩ : ∃ q, q = decide (l[j].1 = p) := ⟨_, rfl⟩
        simp only [← hq] at hca
        obtain ⟨y, hy⟩ : ∃ y, y = l[j] := ⟨_, rfl⟩
        simp only [← hy] at r1 hca hq htj
        obtain ⟨y1, y2⟩ := y
        obtain ⟨Y1, hY1⟩ : ∃ Y : ByteArray, Y = ⟨y1.toArray⟩ := ⟨_, rfl⟩
        obtain ⟨Y2, hY2⟩ : ∃ Y : ByteArray, Y = ⟨y2.toArray⟩ := ⟨_, rfl⟩
        have hrc : rcells (y1, y2) = [.string Y1, .string Y2] := by rw [hY1, hY2]; rfl
        rw [hrc] at r1
        simp only [hrc] at hca
        have bA : Below wo.heap.size wo (wo.alloc (.cells #[.string Y1, .string Y2] 69)) := (Below.refl _ _).alloc (Nat.le_refl _) _
        have zA := Blk.new wo 69 [.string Y1, .string Y2]
        have Hca := Lib.hid (hca _ (Below.then hb bA))
        have R1 := Lib.hid r1
        have Htk := Lib.hid htk
        have Htj := Lib.hid htj
        have Hdj := Lib.hid hdj
        have HLl := Lib.hid hLl
        have Hrc := Lib.hid hrc
        cases q with
        | true =>
          have hyp : y1 = p := by simpa using hq.symm
          have hkeep : Hid (keepR p (l.take (j + 1)) = keepR p (l.take j)) := Lib.hid (by
            rw [htj]; unfold keepR; rw [List.filter_append]; simp [hyp])
          clear hca r1 htk htj hdj hLl hdr hq hY1 hY2 hrc hyp hlt hjl hLj hy hjl'
          go_wp2_with (first
            | (refine wpList_loadW (o := ⟨some 25, _, _, _, _, _⟩) 69 (.tmp 24) (by rfl) g (j * 2) (by rfl) aggRoute (by rfl) R1.out (by rfl) ?_)
            | ((with_reducible show wpList _ _ _ (⟨some 27, _, _, _, _, _⟩ :: _) _ _); refine wpList_loadA (o := ⟨some 27, _, _, _, _, _⟩) (by rfl) 69 (.tmp 7) (by rfl) wo.heap.size (by rfl) aggRoute zA (by rfl) ?_)
            | (go_at_call 52; (with_reducible refine Hca.out.mono ?_); rintro e w3 ⟨rfl, b3⟩; have b13 := Below.then bA b3; have own3 := own.kept b13; have bb3 := Below.then hb b13))
          go_roundw
          case rel => (repeat apply Exists.intro); refine And.intro ?_ rfl; exact ⟨i, j + 1, L, by omega, by omega, rfl, by go_num, own3, by rw [hkeep.out]; exact Htk.out, Hdj.out, HLl.out, bb3⟩
          case measure => simp [intOf]; omega
        | false =>
          have hyp : y1 ≠ p := by simpa using hq.symm
          have hkeep : Hid (keepR p (l.take (j + 1)) = keepR p (l.take j) ++ [(y1, y2)]) := Lib.hid (by
            rw [htj]; unfold keepR; rw [List.filter_append]; simp [hyp])
          have hil : i < L.length := by omega
          have hsplit : L = L.take i ++ [L[i]] ++ L.drop (i + 1) := by
            rw [List.append_assoc, List.singleton_append, ← List.drop_eq_getElem_cons hil, List.take_append_drop]
          have hlti : (L.take i).length = i := by rw [List.length_take]; omega
          have hset : Hid (∀ u : World, OwnOf rcells 2 69 u W0.heap.size (.slice (some ⟨g, 0, none⟩) n c) L → OwnOf rcells 2 69 (u.setCells g (i * 2) [.string Y1, .string Y2]) W0.heap.size (.slice (some ⟨g, 0, none⟩) n c) (L.take i ++ [(y1, y2)] ++ L.drop (i + 1))) := Lib.hid (fun u hu => by
            rw [hsplit] at hu
            have := rt_puts (Y := [(y1, y2)]) hu rfl
            rw [hlti] at this
            rw [show ([(y1, y2)] : List Rt).flatMap rcells = [.string Y1, .string Y2] from by rw [← hrc]; simp] at this
            exact this)
          have hrel1 : Hid ((L.take i ++ [(y1, y2)] ++ L.drop (i + 1)).take (i + 1) = keepR p (l.take (j + 1)) ∧ (L.take i ++ [(y1, y2)] ++ L.drop (i + 1)).drop (j + 1) = l.drop (j + 1) ∧ (L.take i ++ [(y1, y2)] ++ L.drop (i + 1)).length = n) := Lib.hid (by
            refine ⟨?_, ?_, ?_⟩
            · rw [hkeep.out, ← htk, List.take_left' (by rw [List.length_append, hlti]; rfl)]
            · rw [drop_same (X := [(y1, y2)]) (Y := [L[i]]) (A := L.take i) rfl (j + 1) (by rw [hlti]; simp; omega), ← hsplit]
              exact hdj
            · simp only [List.length_append, List.length_drop, hlti, List.length_singleton]; omega)
          have hone : ∀ u ∈ [Value.string Y1, Value.string Y2], u.oneCell' = true := by
            intro u hu
            simp only [List.mem_cons, List.not_mem_nil, or_false] at hu
            rcases hu with rfl | rfl <;> rfl
          have Hone := Lib.hid hone
          clear hca r1 htk htj hdj hLl hdr hq hY1 hY2 hrc hyp hlt hjl hLj hy hjl' hone hsplit hlti hkeep hil
          go_wp2_with (first
            | (refine wpList_loadW (o := ⟨some 25, _, _, _, _, _⟩) 69 (.tmp 24) (by rfl) g (j * 2) (by rfl) aggRoute (by rfl) R1.out (by rfl) ?_)
            | ((with_reducible show wpList _ _ _ (⟨some 27, _, _, _, _, _⟩ :: _) _ _); refine wpList_loadA (o := ⟨some 27, _, _, _, _, _⟩) (by rfl) 69 (.tmp 7) (by rfl) wo.heap.size (by rfl) aggRoute zA (by rfl) ?_)
            | (go_at_call 52; (with_reducible refine Hca.out.mono ?_); rintro e w3 ⟨rfl, b3⟩; have b13 := Below.then bA b3; have own3 := own.kept b13; have bb3 := Below.then hb b13; have zA3 := zA.kept b3; have hth : w3.there g (i * 2) 2 := (fun j hj => ⟨(rt_there own3 (i * 2 + j) (by omega)).1, (rt_there own3 (i * 2 + j) (by omega)).2⟩); have own4 := hset.out _ own3; have bb4 : Below W0.heap.size W0 (w3.setCells g (i * 2) [.string Y1, .string Y2]) := bb3.grown (grown_sets [.string Y1, .string Y2] (i * 2) ⟨rfl, rfl, rfl, Nat.le_refl _, fun _ _ _ => rfl⟩) bb3.size (fun k hk => by cases hk; exact hgB))
            | ((with_reducible show wpList _ _ _ (⟨some 32, _, _, _, _, _⟩ :: _) _ _); refine wpList_loadA (o := ⟨some 32, _, _, _, _, _⟩) (by rfl) 69 (.tmp 7) (by rfl) wo.heap.size (by rfl) aggRoute zA3 (by rfl) ?_)
            | ((with_reducible show wpList _ _ _ (⟨none, Op.store _ _ (Operand.tmp 32), _, _, _, _⟩ :: _) _ _); refine wpList_store_mid (by rfl) 69 (.tmp 33) (.tmp 32) (by rfl) g (i * 2) #[.string Y1, .string Y2] (by rfl) (by rfl) hth (by kernel_rfl) (all_oneCell_toArray Hone.out) ?_))
          go_roundw
          case rel => first | exact ⟨i + 1, j + 1, _, by omega, by omega, by go_num, by go_num, own4, hrel1.out.1, hrel1.out.2.1, hrel1.out.2.2, bb4⟩ | (repeat apply Exists.intro); refine And.intro ?_ rfl; exact ⟨i + 1, j + 1, _, by omega, by omega, by go_num, by go_num, own4, hrel1.out.1, hrel1.out.2.1, hrel1.out.2.2, bb4⟩
          case measure => simp [intOf]; omega
      · obtain rfl : n = j := by omega
        have hin : i < n := hij
        have r38 := rt_from g n c i hin hnc (i : Int) rfl
        have r41 := rt_to g n c i (by omega) hnc (i : Int) rfl
        have hcl := rt_clear g i n c hin wo (fun j hj1 hj2 => rt_there own j hj2)
        have hii : (i : Int) ≤ (n : Int) := by omega
        have hic : (i : Int) ≤ (c : Int) := by omega
        obtain ⟨CZ, hCZ⟩ : ∃ CZ, CZ = (List.replicate (n - i) (([], []) : Rt)).flatMap rcells := ⟨_, rfl⟩
        have hlti : (L.take i).length = i := by rw [List.length_take]; omega
        have hown : OwnOf rcells 2 69 (wo.setCells g (i * 2) CZ) W0.heap.size (.slice (some ⟨g, 0, none⟩) i c) (keepR p l) := by
          have h1 : L = L.take i ++ L.drop i ++ [] := by simp
          rw [h1] at own
          have h2 := rt_puts (Y := List.replicate (n - i) (([], []) : Rt)) own (by rw [List.length_drop, List.length_replicate]; omega)
          rw [hlti, ← hCZ, List.append_nil] at h2
          have h3 := rt_cut h2
          rw [hlti, htk, show l.take n = l from by rw [Hn.out, List.take_length]] at h3
          exact h3
        have hbz : Below W0.heap.size W0 (wo.setCells g (i * 2) CZ) := hb.grown (grown_sets CZ (i * 2) ⟨rfl, rfl, rfl, Nat.le_refl _, fun _ _ _ => rfl⟩) hb.size (fun k hk => by cases hk; exact hgB)
        rw [← hCZ] at hcl
        have Hown := Lib.hid hown
        clear own htk hdr hlt hCZ hown hLl hlti
        go_wp2_with fail
        go_ret
        exact ⟨_, rfl, Hown.out, hbz⟩
end Go.Proofs.Ytcgpjceopnfahaa
