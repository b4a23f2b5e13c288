/- slices.Clone of bytes and of slots; world.own. | world.find: the comparison of one holder. | slices.BinarySearchFunc at holders; world.find. | world.Get. | copy of elements of many cells; slices.Insert of one holder: the laws. -/
import Derived.Test.YtakhaanenlblmaaWs5
import Derived.Test.YtakhaanenlblmaaMem10
import Derived.Laws.Externs
import Derived.Lib.Overlaps
/- (Ws6) slices.Clone of bytes and of slots; world.own. -/
set_option linter.unusedSimpArgs false
set_option linter.unusedVariables false
namespace Go.Proofs.Ytakhaanenlblmaa
open Go.RowKit
theorem elSlot : El Try.prog 47 137 (.agg z8.toArray) 8 64 spc where
  ht := Try.underlying47
  hi := by kernel_rfl
  hzs := rfl
  hsz := by omega
  hf := spc_len
  h1 := spc_one
set_option maxHeartbeats 1000000 in
set_option maxRecDepth 100000 in
theorem bclone_any (a : Option Addr) (n c : Nat) (ls : List (UInt8)) (hn : ls.length = n) (w : World) (h : RowOf b8 1 w (.slice a n c) ls) (hB : n * 1 ≤ 140737488355328) :
    Calls Try.prog 115 #[.slice a n c] w fun e w' => ∃ v, e = .returned v ∧ OwnOf b8 1 5 w' w.heap.size v ls ∧ Below w.heap.size w w' := by
  have hsm := h.small
  cases a with
  | none =>
    have h0 : ls = [] ∧ n = 0 := by
      obtain ⟨_, _, _, hv, _, _, h3⟩ := h
      rcases h3 with ⟨h1, h2, h3⟩ | ⟨b, off, s, h1, h2, h3⟩
      · exact ⟨List.eq_nil_of_length_eq_zero (by omega), by omega⟩
      · simp only [Value.slice.injEq] at hv
        rw [← hv.1] at h1
        simp at h1
    obtain ⟨rfl, rfl⟩ := h0
    have he : ∀ w : World, (binOp .eql 22 (.slice none 0 c) (.slice none 0 0)).run Try.prog w = .ok (.bool true) w := fun _ => rfl
    go_enter Try.func115, Try.ntmps115
    go_wp2
    go_ret
    exact ⟨_, rfl, OwnOf.nil b8 1 _ _ _, Below.refl _ _⟩
  | some p =>
    have Hn := Lib.hid hn
    have he : ∀ w : World, (binOp .eql 22 (.slice (some p) n c) (.slice none 0 0)).run Try.prog w = .ok (.bool false) w := fun _ => rfl
    go_enter Try.func115, Try.ntmps115
    go_wp2_with (refine wpList_appA (o := ⟨some 7, _, _, _, _, _⟩) (by rfl) (.tmp 5) (.tmp 6) 22 (by rfl) elU8 (by rfl) (OwnOf.empty b8 1 5 w w.heap.size (Nat.le_refl _)) (by rfl) (h.alloc _) (by simp) (by simp [Hn.out]; omega) (by simp only [List.length_nil]; omega) ?_; intro v2 w2 hA2 hg2 hl2)
    go_ret
    refine ⟨_, rfl, hA2, ?_⟩
    exact ((Below.refl _ _).alloc (Nat.le_refl _) (.cells #[] 5)).grown hg2 (by simp) (fun j hj => OwnOf.lt (OwnOf.empty b8 1 5 w w.heap.size (Nat.le_refl _)) j hj)
set_option maxHeartbeats 1000000 in
set_option maxRecDepth 100000 in
theorem sclone_any (a : Option Addr) (n c : Nat) (ls : List (Nat × Nat)) (hn : ls.length = n) (w : World) (h : RowOf spc 8 w (.slice a n c) ls) (hB : n * 64 ≤ 140737488355328) :
    Calls Try.prog 116 #[.slice a n c] w fun e w' => ∃ v, e = .returned v ∧ OwnOf spc 8 137 w' w.heap.size v ls ∧ Below w.heap.size w w' := by
  have hsm := h.small
  cases a with
  | none =>
    have h0 : ls = [] ∧ n = 0 := by
      obtain ⟨_, _, _, hv, _, _, h3⟩ := h
      rcases h3 with ⟨h1, h2, h3⟩ | ⟨b, off, s, h1, h2, h3⟩
      · exact ⟨List.eq_nil_of_length_eq_zero (by omega), by omega⟩
      · simp only [Value.slice.injEq] at hv
        rw [← hv.1] at h1
        simp at h1
    obtain ⟨rfl, rfl⟩ := h0
    have he : ∀ w : World, (binOp .eql 47 (.slice none 0 c) (.slice none 0 0)).run Try.prog w = .ok (.bool true) w := fun _ => rfl
    go_enter Try.func116, Try.ntmps116
    go_wp2
    go_ret
    exact ⟨_, rfl, OwnOf.nil spc 8 _ _ _, Below.refl _ _⟩
  | some p =>
    have Hn := Lib.hid hn
    have he : ∀ w : World, (binOp .eql 47 (.slice (some p) n c) (.slice none 0 0)).run Try.prog w = .ok (.bool false) w := fun _ => rfl
    go_enter Try.func116, Try.ntmps116
    go_wp2_with (refine wpList_appA (o := ⟨some 7, _, _, _, _, _⟩) (by rfl) (.tmp 5) (.tmp 6) 47 (by rfl) elSlot (by rfl) (OwnOf.empty spc 8 137 w w.heap.size (Nat.le_refl _)) (by rfl) (h.alloc _) (by simp) (by simp [Hn.out]; omega) (by simp only [List.length_nil]; omega) ?_; intro v2 w2 hA2 hg2 hl2)
    go_ret
    refine ⟨_, rfl, hA2, ?_⟩
    exact ((Below.refl _ _).alloc (Nat.le_refl _) (.cells #[] 137)).grown hg2 (by simp) (fun j hj => OwnOf.lt (OwnOf.empty spc 8 137 w w.heap.size (Nat.le_refl _)) j hj)
structure Acc.Sz (a : Acc) : Prop where
  c : a.c.length ≤ 140737488355328
  s : a.s.length * 64 ≤ 140737488355328
def OwnB (B : Nat) (l : List UInt8) : Ty := fun v u => OwnOf b8 1 5 u B v l
theorem OwnB.mono (B : Nat) (l : List UInt8) : Mono (OwnB B l) := fun _ _ _ h hb => OwnOf.kept h hb
def OwnS (B : Nat) (l : List (Nat × Nat)) : Ty := fun v u => OwnOf spc 8 137 u B v l
theorem OwnS.mono (B : Nat) (l : List (Nat × Nat)) : Mono (OwnS B l) := fun _ _ _ h hb => OwnOf.kept h hb
def accsL (n : Nat) (m : Nat) (cv sv : Value) : List Value := [u64v n] ++ (wcs m ++ [cv, sv])
def z7 : List Value := [.int .u64 0, .int .u64 0, .int .u64 0, .int .u64 0, .int .u64 0, .slice none 0 0, .slice none 0 0]
theorem accs_one {a : Acc} {w : World} (hi : a.In w) : ∀ u ∈ accs a, u.oneCell' = true := by
  intro u hu
  obtain ⟨ca, cc, sa, sc, h1, h2⟩ := acc_parts hi
  unfold accs at hu
  rw [h1, h2] at hu
  rcases List.mem_append.1 hu with hu | hu
  · rw [List.mem_singleton] at hu; subst hu; rfl
  · rcases List.mem_append.1 hu with hu | hu
    · exact wcs_one _ u hu
    · simp only [List.mem_cons, List.not_mem_nil, or_false] at hu
      rcases hu with rfl | rfl <;> rfl
/-- an account of one's own -/
structure OwnAcc (u : World) (B : Nat) (a : Acc) : Prop where
  c : OwnOf b8 1 5 u B a.cv a.c
  s : OwnOf spc 8 137 u B a.sv a.s
theorem OwnAcc.kept {u u' : World} {B : Nat} {a : Acc} (h : OwnAcc u B a) (hb : Below u.heap.size u u') : OwnAcc u' B a := ⟨h.c.kept hb, h.s.kept hb⟩
theorem OwnAcc.In {u : World} {B : Nat} {a : Acc} (h : OwnAcc u B a) : a.In u := ⟨h.c.row, h.s.row⟩
set_option maxHeartbeats 1000000 in
set_option maxRecDepth 100000 in
theorem own_any (a : Acc) (hz : a.Sz) (w : World) (h : a.In w) : Calls Try.prog 60 #[.agg (accs a).toArray] w fun e w' => ∃ a' : Acc, e = .returned (.agg (accs a').toArray) ∧ a'.val = a.val ∧ OwnAcc w' w.heap.size a' ∧ Below w.heap.size w w' := by
  obtain ⟨ca, cc, sa, sc, hcv, hsv⟩ := acc_parts h
  obtain ⟨w1, hw1⟩ : ∃ w1, w1 = (w.alloc (.cells (accs a).toArray 49)).alloc (.cells z7.toArray 49) := ⟨_, rfl⟩
  have z1 : Blk 49 w1 w.heap.size (accs a) := by rw [hw1]; exact (Blk.new w _ _).alloc _
  have z2 : Blk 49 w1 (w.heap.size + 1) z7 := by
    rw [hw1]
    have := Blk.new (w.alloc (.cells (accs a).toArray 49)) 49 z7
    simpa using this
  have hbel : Below w.heap.size w w1 := by rw [hw1]; exact ((Below.refl _ _).alloc (Nat.le_refl _) _).alloc (by simp) _
  have c5 : w1.cell? ⟨w.heap.size, 5, none⟩ = some (.slice ca a.c.length cc) := by have := z1.cell 5; rw [show (accs a)[5]? = some a.cv from rfl, hcv] at this; exact this
  have c6 : w1.cell? ⟨w.heap.size, 6, none⟩ = some (.slice sa a.s.length sc) := by have := z1.cell 6; rw [show (accs a)[6]? = some a.sv from rfl, hsv] at this; exact this
  have hC : Bytes w1 (.slice ca a.c.length cc) a.c := by rw [← hcv]; exact (h.below hbel).1
  have hS : RowOf spc 8 w1 (.slice sa a.s.length sc) a.s := by rw [← hsv]; exact (h.below hbel).2
  have cb := fun u : Ext w1 => bclone_any ca a.c.length cc a.c rfl u.val (hC.below u.bel) (by have := hz.c; omega)
  have cs := fun u : Ext w1 => sclone_any sa a.s.length sc a.s rfl u.val (hS.below u.bel) hz.s
  obtain ⟨cn, hcn⟩ : ∃ n, n = a.c.length := ⟨_, rfl⟩
  obtain ⟨sn, hsn⟩ : ∃ n, n = a.s.length := ⟨_, rfl⟩
  rw [← hcn] at cb c5
  rw [← hsn] at cs c6
  obtain ⟨X, hX⟩ : ∃ X, X = accs a := ⟨_, rfl⟩
  have hXl : X.length = 7 := by rw [hX]; rfl
  have hXs : ∀ v5 v6 : Value, (X.set 5 v5).set 6 v6 = accs ⟨a.n, a.m, v5, a.c, v6, a.s⟩ := fun v5 v6 => by rw [hX]; rfl
  rw [← hX] at z1 hw1 ⊢
  have Hw1 := Lib.hid hw1
  have Cb := Lib.hid cb
  have Cs := Lib.hid cs
  have HXs := Lib.hid hXs
  have Hcn := Lib.hid hcn
  have Hsn := Lib.hid hsn
  clear hw1 cb cs hXs hX hcn hsn hcv hsv hC hS
  go_enter Try.func60, Try.ntmps60
  go_upto_region 1 with fail
  rw [show ((w.alloc (.cells X.toArray 49)).alloc (.cells #[.int .u64 0, .int .u64 0, .int .u64 0, .int .u64 0, .int .u64 0, .slice none 0 0, .slice none 0 0] 49)) = w1 from Hw1.out.symm]
  have k5 := fun u : Ext w1 => u.cell c5
  have k6 := fun u : Ext w1 => u.cell c6
  refine wp_region_typed w1 7 (by kernel_rfl) (by kernel_rfl) (Below.refl _ _) ?_; simp only [List.take_succ_cons, List.take_zero, List.take_nil]
  iterate 2 (refine wpX_step (by rfl) (fun K hK => ?_); go_simp; first | (refine hK _ ?_; clear hK K) | (apply Exists.intro; refine ⟨fun _ => ?_, hK _ ?_⟩; fail; clear hK K))
  refine wpX_rel 5 (OwnB w1.heap.size a.c) rfl (of_decide_eq_true rfl) (OwnB.mono _ _) (fun w3 hw3 => ?_) ?_
  · show _ ∧ _
    refine ⟨by rfl, ?_⟩
    go_simp
    refine (Cb.out ⟨w3, hw3⟩).mono ?_
    rintro e w4 ⟨v, h1, h2, h3⟩
    exact ⟨v, h1, OwnOf.lower h2 hw3.size, h3⟩
  iterate 2 (refine wpX_step (by rfl) (fun K hK => ?_); go_simp; first | (refine hK _ ?_; clear hK K) | (apply Exists.intro; refine ⟨fun _ => ?_, hK _ ?_⟩; fail; clear hK K))
  refine wpX_rel 8 (OwnS w1.heap.size a.s) rfl (of_decide_eq_true rfl) (OwnS.mono _ _) (fun w3 hw3 => ?_) ?_
  · show _ ∧ _
    refine ⟨by rfl, ?_⟩
    go_simp
    refine (Cs.out ⟨w3, hw3⟩).mono ?_
    rintro e w4 ⟨v, h1, h2, h3⟩
    exact ⟨v, h1, OwnOf.lower h2 hw3.size, h3⟩
  (refine wpX_step (by rfl) (fun K hK => ?_); go_simp; first | (refine hK _ ?_; clear hK K) | (apply Exists.intro; refine ⟨fun _ => ?_, hK _ ?_⟩; fail; clear hK K))
  refine wpX_nil ?_
  intro y5 b5
  show ∀ v5, OwnB w1.heap.size a.c v5 y5 → ∀ v8, OwnS w1.heap.size a.s v8 y5 → wpList _ _ _ [_, _, _] _ _
  intro v5 h5 v8 h8
  try simp only [Act.put, List.setIfInBounds_toArray, List.set_cons_zero, List.set_cons_succ]
  obtain ⟨a5, n5, rfl, _⟩ := OwnOf.form' h5 cn Hcn.out.symm
  obtain ⟨a8, n8, rfl, _⟩ := OwnOf.form' h8 sn Hsn.out.symm
  have z15 := z1.kept b5
  have z25 := z2.kept b5
  have q5 : y5.cell? ⟨w.heap.size, 5, none⟩ = some (.slice ca cn cc) := by rw [b5.cell (World.block_lt_of_cell? w1 _ c5)]; exact c5
  have q6 : y5.cell? ⟨w.heap.size, 6, none⟩ = some (.slice sa sn sc) := by rw [b5.cell (World.block_lt_of_cell? w1 _ c6)]; exact c6
  have f5 := z15.free 5
  have f6 := z15.free 6
  clear k5 k6
  go_upto_region 2 with fail
  have z16 := (z15.set 5 (.slice a5 cn n5)).set 6 (.slice a8 sn n8)
  rw [HXs.out] at z16
  have z26 := (z25.other ⟨w.heap.size, 5, none⟩ (by show w.heap.size ≠ w.heap.size + 1; omega) (.slice a5 cn n5)).other ⟨w.heap.size, 6, none⟩ (by show w.heap.size ≠ w.heap.size + 1; omega) (.slice a8 sn n8)
  have n5' := h5.notT z15 (by decide)
  have n8' := h8.notT z15 (by decide)
  have o5 := (OwnOf.grown h5 (grown_cell (w := y5) (g := w.heap.size) 5 (.slice a5 cn n5)) (fun k hk e => n5' (by cases hk; exact e))).grown (grown_cell 6 (.slice a8 sn n8)) (fun k hk e => n5' (by cases hk; exact e))
  have o8 := (OwnOf.grown h8 (grown_cell (w := y5) (g := w.heap.size) 5 (.slice a5 cn n5)) (fun k hk e => n8' (by cases hk; exact e))).grown (grown_cell 6 (.slice a8 sn n8)) (fun k hk e => n8' (by cases hk; exact e))
  have bb6 := ((Below.then hbel b5).setCell (p := ⟨w.heap.size, 5, none⟩) (Nat.le_refl _) (.slice a5 cn n5)).setCell (p := ⟨w.heap.size, 6, none⟩) (Nat.le_refl _) (.slice a8 sn n8)
  obtain ⟨y6, hy6⟩ : ∃ x, x = (y5.setCell ⟨w.heap.size, 5, none⟩ (.slice a5 cn n5)).setCell ⟨w.heap.size, 6, none⟩ (.slice a8 sn n8) := ⟨_, rfl⟩
  rw [← hy6] at z16 z26 o5 o8 bb6
  try simp only [← hy6]
  obtain ⟨Y, hY⟩ : ∃ Y, Y = accs ⟨a.n, a.m, .slice a5 cn n5, a.c, .slice a8 sn n8, a.s⟩ := ⟨_, rfl⟩
  have hYl : Y.length = 7 := by rw [hY]; rfl
  have hYo : ∀ u ∈ Y, u.oneCell' = true := by
    rw [hY]
    intro u hu
    unfold accs at hu
    rcases List.mem_append.1 hu with hu | hu
    · rw [List.mem_singleton] at hu; subst hu; rfl
    · rcases List.mem_append.1 hu with hu | hu
      · exact wcs_one _ u hu
      · simp only [List.mem_cons, List.not_mem_nil, or_false] at hu
        rcases hu with rfl | rfl <;> rfl
  rw [← hY] at z16
  have HY := Lib.hid hY
  clear hY hy6 q5 q6 f5 f6 z15 z25 h5 h8
  go_wp2_with (first
    | ((with_reducible show wpList _ _ _ (⟨some 11, _, _, _, _, _⟩ :: _) _ _); refine wpList_loadA (o := ⟨some 11, _, _, _, _, _⟩) (by rfl) 49 (.tmp 1) (by rfl) w.heap.size (by rfl) aggAcc z16 hYl ?_)
    | ((with_reducible show wpList _ _ _ (⟨none, Op.store _ _ (Operand.tmp 11), _, _, _, _⟩ :: _) _ _); refine wpList_storeA (o := ⟨none, _, _, _, _, _⟩) (by rfl) 49 (.tmp 2) (.tmp 11) (by rfl) (w.heap.size + 1) Y (by rfl) (by rfl) aggAcc z26 hYl rfl hYo (Below.refl (w.heap.size + 1) y6) (Nat.le_refl _) ?_; intro y7 z7' _ g7))
  refine bodyPost_ret (results_blk rfl _ _ (w.heap.size + 1) aggAcc z7' hYl rfl) rfl ?_
  have m5 := o5.notT z26 (by decide)
  have m8 := o8.notT z26 (by decide)
  refine ⟨⟨a.n, a.m, .slice a5 cn n5, a.c, .slice a8 sn n8, a.s⟩, by rw [HY.out], rfl, ⟨(o5.grown g7 (fun k hk e => m5 (by cases hk; exact e))).lower hbel.size, (o8.grown g7 (fun k hk e => m8 (by cases hk; exact e))).lower hbel.size⟩, bb6.grown g7 bb6.size (fun k hk => by cases hk; exact Nat.le_succ _)⟩
end Go.Proofs.Ytakhaanenlblmaa
/- (Ws7) world.find: the comparison of one holder. -/
namespace Go.Proofs.Ytakhaanenlblmaa
open Go.RowKit
set_option maxHeartbeats 1000000 in
set_option maxRecDepth 100000 in
theorem find1_any (q : Hol) (A : List UInt8) (hA : A.length = 8) (w : World) :
    Calls Try.prog 114 #[.agg (hols q).toArray, .agg (by8 A).toArray] w fun e w' => e = .returned (.int .i64 (ordI q.adr (numL A))) ∧ Below w.heap.size w w' := by
  obtain ⟨w1, hw1⟩ : ∃ w1, w1 = (w.alloc (.cells (hols q).toArray 130)).alloc (.cells (by8 A).toArray 46) := ⟨_, rfl⟩
  have z2 : Blk 130 w1 w.heap.size (hols q) := by rw [hw1]; exact (Blk.new w _ _).alloc _
  have z3 : Blk 46 w1 (w.heap.size + 1) (by8 A) := by
    rw [hw1]
    have := Blk.new (w.alloc (.cells (hols q).toArray 130)) 46 (by8 A)
    simpa using this
  have hbel : Below w.heap.size w w1 := by rw [hw1]; exact ((Below.refl _ _).alloc (Nat.le_refl _) _).alloc (by simp) _
  have rq : w1.rangeAt w.heap.size 0 (by8 q.f) := fun j v hv => by
    rw [Nat.zero_add, z2.cell, hols_addr q j (by have := (List.getElem?_eq_some_iff.1 hv).1; rw [by8_len, q.l] at this; exact this)]; exact hv
  have cc := fun u => before_any q.f A q.l hA u
  obtain ⟨R, hR⟩ : ∃ R, R = ordI (numL q.f) (numL A) := ⟨_, rfl⟩
  rw [← hR] at cc
  show Calls Try.prog 114 _ _ (fun e w' => e = .returned (.int .i64 (ordI (numL q.f) (numL A))) ∧ _)
  rw [← hR]
  obtain ⟨V, hV⟩ : ∃ V, V = by8 q.f := ⟨_, rfl⟩
  obtain ⟨Y, hY⟩ : ∃ Y, Y = by8 A := ⟨_, rfl⟩
  obtain ⟨X, hX⟩ : ∃ X, X = hols q := ⟨_, rfl⟩
  have hlV : V.length = 8 := by rw [hV, by8_len, q.l]
  have hlY : Y.length = 8 := by rw [hY, by8_len, hA]
  rw [← hV, ← hY] at cc
  rw [← hV] at rq
  rw [← hY] at z3 hw1 ⊢
  rw [← hX] at hw1 ⊢
  have Cc := Lib.hid cc
  have Hw1 := Lib.hid hw1
  clear cc hw1 hR hV hY hX z2
  go_enter Try.func114, Try.ntmps114
  go_upto_region 1 with fail
  rw [← Hw1.out]
  go_wp2_with (first
    | ((with_reducible show wpList _ _ _ (⟨some 6, _, _, _, _, _⟩ :: _) _ _); refine wpList_loadW (o := ⟨some 6, _, _, _, _, _⟩) 46 (.tmp 5) (by rfl) w.heap.size 0 (by rfl) aggAddr hlV rq (by rfl) ?_)
    | ((with_reducible show wpList _ _ _ (⟨some 7, _, _, _, _, _⟩ :: _) _ _); refine wpList_loadA (o := ⟨some 7, _, _, _, _, _⟩) (by rfl) 46 (.tmp 3) (by rfl) (w.heap.size + 1) (by rfl) aggAddr z3 hlY ?_)
    | (go_at_call 66; refine (Cc.out _).mono ?_; rintro e w2 ⟨rfl, b2⟩))
  go_ret
  exact ⟨rfl, Below.then hbel b2⟩
end Go.Proofs.Ytakhaanenlblmaa
/- (Ws8) slices.BinarySearchFunc at holders; world.find. -/
namespace Go.Proofs.Ytakhaanenlblmaa
open Go.RowKit
theorem entersF {f : FuncId} {fn : Func} {c : Code} (hf : Try.prog.funcs[f]? = some fn) (hname : (fn.name == "runtime.NumGoroutine") = false) (hb : fn.body = some c) (a b : Value) (w : World) :
    (callFunc f #[a, b]).run Try.prog w = .ok (.enter f #[a, b]) w := by
  have h1 : fn.name ≠ "runtime.NumGoroutine" := by simpa using hname
  simp [callFunc, hf, h1, hb]
/-- in rising order -/
def Rising (l : List Hol) : Prop := ∀ i j (hi : i < l.length) (hj : j < l.length), i < j → l[i].adr < l[j].adr
theorem rising_of {l : List Hol} (h : rightB l = true) : Rising l := by
  have hs : ∀ i (hi : i + 1 < l.length), l[i].adr < l[i + 1].adr := fun i hi => by
    have h1 := List.all_eq_true.1 h (i + 1) (List.mem_range.2 hi)
    unfold okH at h1
    rw [List.getElem?_eq_getElem hi] at h1
    simp only [Bool.and_eq_true, Bool.or_eq_true, decide_eq_true_eq] at h1
    have h2 := h1.2.2.2
    rcases h2 with h2 | h2
    · simp at h2
    · rw [Nat.add_sub_cancel, List.getD_eq_getElem?_getD, List.getElem?_eq_getElem (by omega)] at h2
      exact h2
  intro i j hi hj hij
  obtain ⟨d, rfl⟩ : ∃ d, j = i + 1 + d := ⟨j - i - 1, by omega⟩
  clear hij
  induction d with
  | zero => exact hs i hj
  | succ d ih =>
    have h1 := ih (by omega)
    have h2 := hs (i + 1 + d) (by omega)
    exact Nat.lt_trans h1 h2
theorem ordI_lt (A B : Nat) : (ordI A B < 0) ↔ A < B := by
  unfold ordI
  split
  · omega
  · split <;> omega
theorem ordI_eq (A B : Nat) : (ordI A B = 0) ↔ A = B := by
  unfold ordI
  split
  · omega
  · split <;> omega
/-- what a search finds: how many come before; whether it is there -/
def FindP (l : List Hol) (t : Nat) (i : Nat) (ok : Bool) : Prop := i ≤ l.length ∧ (∀ k (hk : k < l.length), k < i → l[k].adr < t) ∧ (∀ k (hk : k < l.length), i ≤ k → t ≤ l[k].adr) ∧ (ok = true ↔ ∃ hi : i < l.length, l[i].adr = t)
set_option maxHeartbeats 4000000 in
set_option maxRecDepth 100000 in
theorem bsearch_any (a : Option Addr) (n c : Nat) (l : List Hol) (hn : l.length = n) (hs : Rising l) (A : List UInt8) (hA : A.length = 8) (hB : n ≤ 140737488355328) (w : World) (h : RowOf hols 15 w (.slice a n c) l) :
    Calls Try.prog 113 #[.slice a n c, .agg (by8 A).toArray, .func (.func 114) #[] #[]] w fun e w' => ∃ (i : Nat) (ok : Bool), e = .returned (.tuple #[.int .i64 (i : Int), .bool ok]) ∧ FindP l (numL A) i ok ∧ Below w.heap.size w w' := by
  have Hn := Lib.hid hn
  have Hs := Lib.hid hs
  have hsm := h.small
  unfold maxLen at hsm
  rw [hn] at hsm
  have z4 := Blk.new w 46 (by8 A)
  have hbel0 : Below w.heap.size w (w.alloc (.cells (by8 A).toArray 46)) := (Below.refl _ _).alloc (Nat.le_refl _) _
  have en := fun a b w => entersF Try.func114 (by decide) rfl a b w
  have cc := fun q u => find1_any q A hA u
  obtain ⟨T, hT⟩ : ∃ T, T = numL A := ⟨_, rfl⟩
  rw [← hT] at cc ⊢
  obtain ⟨Y, hY⟩ : ∃ Y, Y = by8 A := ⟨_, rfl⟩
  have hlY : Y.length = 8 := by rw [hY, by8_len, hA]
  rw [← hY] at z4 hbel0 cc ⊢
  have Cc := Lib.hid cc
  clear hn hs cc hT hY
  go_enter Try.func113, Try.ntmps113
  go_wp2_with fail
  go_loopw [9, 10] (fun s9 s10 wr => ∃ i j : Nat, s9 = .int .i64 (i : Int) ∧ s10 = .int .i64 (j : Int) ∧ i ≤ j ∧ j ≤ n ∧ Below w.heap.size w wr ∧ Blk 46 wr w.heap.size Y ∧ Hid ((∀ k (hk : k < l.length), k < i → l[k].adr < T) ∧ (∀ k (hk : k < l.length), j ≤ k → T ≤ l[k].adr))) (fun s9 s10 _ => (intOf s10).toNat - (intOf s9).toNat)
  case atStart => exact ⟨0, n, rfl, rfl, by omega, by omega, hbel0, z4, Lib.hid ⟨fun k hk h => by omega, fun k hk h => by have := Hn.out; omega⟩⟩
  case round =>
    clear z4 hbel0
    obtain ⟨i, j, rfl, rfl, hij, hjn, hbel, zr, hP⟩ := hrel
    by_cases hlt : i < j
    · have hz : (i : Int) < (j : Int) := by omega
      obtain ⟨m, hm⟩ : ∃ m, m = (i + j) / 2 := ⟨_, rfl⟩
      have hmn : m < n := by omega
      have hml : m < l.length := by rw [Hn.out]; exact hmn
      have e1 : IntKind.i64.wrap ((i : Int) + (j : Int)) = ((i + j : Nat) : Int) := by rw [IntWalk.i64_in _ (by omega)]; omega
      have e2 : IntKind.u64.wrap ((i + j : Nat) : Int) = ((i + j : Nat) : Int) := IntWalk.u64_in _ ⟨by omega, by omega⟩
      have e3 : ((i + j : Nat) : Int) / 2 = (m : Int) := by omega
      have e4 : IntKind.i64.wrap (m : Int) = (m : Int) := IntWalk.i64_in _ (by omega)
      have hmz : (m : Int) < (n : Int) := by omega
      obtain ⟨b, off, rfl, hr⟩ := RowOf.range hols_len (h.below hbel) m hml
      obtain ⟨ij, hij2⟩ : ∃ x, x = i + j := ⟨_, rfl⟩
      rw [← hij2] at e1 e2 e3
      obtain ⟨q, hq⟩ : ∃ q, q = l[m] := ⟨_, rfl⟩
      rw [← hq] at hr
      have c1 := fun u => Cc.out q u
      have hol := ordI_lt q.adr T
      obtain ⟨r, hrr⟩ : ∃ r, r = ordI q.adr T := ⟨_, rfl⟩
      rw [← hrr] at c1 hol
      obtain ⟨X, hX⟩ : ∃ X, X = hols q := ⟨_, rfl⟩
      have hlX : X.length = 15 := by rw [hX]; exact hols_len q
      rw [← hX] at hr c1
      have C1 := Lib.hid c1
      have RX := Lib.hid hr
      have RY := Lib.hid (Blk.all0 zr)
      have Hq := Lib.hid hq
      have Hm := Lib.hid hm
      clear c1 hX hrr hr hq hm hij2
      have go : ∀ {G : Prop}, (r < 0 → decide (r < 0) = true → G) → (¬ r < 0 → decide (r < 0) = false → G) → G := fun {G} h1 h2 => by
        by_cases hrn : r < 0
        · exact h1 hrn (decide_eq_true hrn)
        · exact h2 hrn (decide_eq_false hrn)
      refine go (fun hr0 hr1 => ?_) (fun hr0 hr1 => ?_)
      all_goals clear go
      · have hlow : q.adr < T := hol.1 hr0
        have Hlow := Lib.hid hlow
        have hadd : IntKind.i64.wrap ((m : Int) + 1) = ((m + 1 : Nat) : Int) := by rw [IntWalk.i64_in _ (by omega)]; omega
        clear hol hlow
        go_upto_region 5 with fail
        refine wp_region_typed wr 7 (by kernel_rfl) (by kernel_rfl) (Below.refl _ _) ?_; simp only [List.take_succ_cons, List.take_zero, List.take_nil]
        iterate 4 (refine wpX_step (by rfl) (fun K hK => ?_); go_simp; first | (refine hK _ ?_; clear hK K) | (apply Exists.intro; refine ⟨fun _ => ?_, hK _ ?_⟩; fail; clear hK K))
        (refine wpX_step (by rfl) (fun K hK => ?_); rw [if_pos (by rfl)]; refine ⟨_, fun u => const_loadm _ (.tmp 27) (by rfl) _ _ (by rfl) aggHol hlX (rangeAt.ext RX.out u), hK _ ?_⟩; clear hK K; simp only [Act.put, List.setIfInBounds_toArray, List.set_cons_zero, List.set_cons_succ])
        (refine wpX_step (by rfl) (fun K hK => ?_); rw [if_pos (by rfl)]; refine ⟨_, fun u => const_loadm _ (.tmp 4) (by rfl) _ _ (by rfl) aggAddr hlY (rangeAt.ext RY.out u), hK _ ?_⟩; clear hK K; simp only [Act.put, List.setIfInBounds_toArray, List.set_cons_zero, List.set_cons_succ])
        (refine wpX_step (by rfl) (fun K hK => ?_); go_simp; first | (refine hK _ ?_; clear hK K) | (apply Exists.intro; refine ⟨fun _ => ?_, hK _ ?_⟩; exact C1.out _; clear hK K))
        refine wpX_nil ?_
        intro y5 b5
        change wpList _ _ _ [_] _ _
        try simp only [Act.put, List.setIfInBounds_toArray, List.set_cons_zero, List.set_cons_succ]
        go_wp2_with fail
        go_roundw
        case rel =>
          refine ⟨m + 1, j, rfl, rfl, by have := Hm.out; omega, hjn, Below.then hbel b5, zr.kept b5, Lib.hid ⟨fun k hk hkm => ?_, hP.out.2⟩⟩
          by_cases hkm2 : k = m
          · subst hkm2
            have := Hlow.out
            rw [Hq.out] at this; exact this
          · have h1 := Hs.out k m hk hml (by omega)
            have h2 := Hlow.out
            rw [Hq.out] at h2
            exact Nat.lt_trans h1 h2
        case measure => simp [intOf]; have := Hm.out; omega
      · have hhigh : T ≤ q.adr := Nat.le_of_not_lt (fun h => hr0 (hol.2 h))
        have Hhigh := Lib.hid hhigh
        clear hol hhigh
        go_upto_region 5 with fail
        refine wp_region_typed wr 7 (by kernel_rfl) (by kernel_rfl) (Below.refl _ _) ?_; simp only [List.take_succ_cons, List.take_zero, List.take_nil]
        iterate 4 (refine wpX_step (by rfl) (fun K hK => ?_); go_simp; first | (refine hK _ ?_; clear hK K) | (apply Exists.intro; refine ⟨fun _ => ?_, hK _ ?_⟩; fail; clear hK K))
        (refine wpX_step (by rfl) (fun K hK => ?_); rw [if_pos (by rfl)]; refine ⟨_, fun u => const_loadm _ (.tmp 27) (by rfl) _ _ (by rfl) aggHol hlX (rangeAt.ext RX.out u), hK _ ?_⟩; clear hK K; simp only [Act.put, List.setIfInBounds_toArray, List.set_cons_zero, List.set_cons_succ])
        (refine wpX_step (by rfl) (fun K hK => ?_); rw [if_pos (by rfl)]; refine ⟨_, fun u => const_loadm _ (.tmp 4) (by rfl) _ _ (by rfl) aggAddr hlY (rangeAt.ext RY.out u), hK _ ?_⟩; clear hK K; simp only [Act.put, List.setIfInBounds_toArray, List.set_cons_zero, List.set_cons_succ])
        (refine wpX_step (by rfl) (fun K hK => ?_); go_simp; first | (refine hK _ ?_; clear hK K) | (apply Exists.intro; refine ⟨fun _ => ?_, hK _ ?_⟩; exact C1.out _; clear hK K))
        refine wpX_nil ?_
        intro y5 b5
        change wpList _ _ _ [_] _ _
        try simp only [Act.put, List.setIfInBounds_toArray, List.set_cons_zero, List.set_cons_succ]
        go_wp2_with fail
        go_roundw
        case rel =>
          refine ⟨i, m, rfl, rfl, by have := Hm.out; omega, by omega, Below.then hbel b5, zr.kept b5, Lib.hid ⟨hP.out.1, fun k hk hkm => ?_⟩⟩
          have h2 := Hhigh.out
          rw [Hq.out] at h2
          by_cases hkm2 : k = m
          · subst hkm2; exact h2
          · have h1 := Hs.out m k hml hk (by omega)
            exact Nat.le_trans h2 (Nat.le_of_lt h1)
        case measure => simp [intOf]; have := Hm.out; omega
    · obtain rfl : i = j := by omega
      have hz : ¬ (i : Int) < (i : Int) := by omega
      by_cases hin : i < n
      · have hil : i < l.length := by rw [Hn.out]; exact hin
        have hinz : (i : Int) < (n : Int) := by omega
        obtain ⟨b, off, rfl, hr⟩ := RowOf.range hols_len (h.below hbel) i hil
        obtain ⟨q, hq⟩ : ∃ q, q = l[i] := ⟨_, rfl⟩
        rw [← hq] at hr
        have c1 := fun u => Cc.out q u
        have hol := ordI_eq q.adr T
        obtain ⟨r, hrr⟩ : ∃ r, r = ordI q.adr T := ⟨_, rfl⟩
        rw [← hrr] at c1 hol
        obtain ⟨X, hX⟩ : ∃ X, X = hols q := ⟨_, rfl⟩
        have hlX : X.length = 15 := by rw [hX]; exact hols_len q
        rw [← hX] at hr c1
        have C1 := Lib.hid c1
        have RX := Lib.hid hr
        have RY := Lib.hid (Blk.all0 zr)
        have Hq := Lib.hid hq
        obtain ⟨R, hR⟩ : ∃ R : Bool, R = (r == 0) := ⟨_, rfl⟩
        have hRb : (r == 0) = R := hR.symm
        have Hfin : Hid (R = true ↔ ∃ hi : i < l.length, l[i].adr = T) := Lib.hid (by
          rw [hR, beq_iff_eq, hol, hq]
          exact ⟨fun h => ⟨hil, h⟩, fun ⟨_, h⟩ => h⟩)
        clear c1 hX hrr hr hq hR hol
        go_wp2_with fail
        refine wp_region_typed wr 15 (by kernel_rfl) (by kernel_rfl) (Below.refl _ _) ?_; simp only [List.take_succ_cons, List.take_zero, List.take_nil]
        iterate 9 (refine wpX_step (by rfl) (fun K hK => ?_); go_simp; first | (refine hK _ ?_; clear hK K) | (apply Exists.intro; refine ⟨fun _ => ?_, hK _ ?_⟩; fail; clear hK K))
        (refine wpX_step (by rfl) (fun K hK => ?_); rw [if_pos (by rfl)]; refine ⟨_, fun u => const_loadm _ (.tmp 43) (by rfl) _ _ (by rfl) aggHol hlX (rangeAt.ext RX.out u), hK _ ?_⟩; clear hK K; simp only [Act.put, List.setIfInBounds_toArray, List.set_cons_zero, List.set_cons_succ])
        (refine wpX_step (by rfl) (fun K hK => ?_); rw [if_pos (by rfl)]; refine ⟨_, fun u => const_loadm _ (.tmp 4) (by rfl) _ _ (by rfl) aggAddr hlY (rangeAt.ext RY.out u), hK _ ?_⟩; clear hK K; simp only [Act.put, List.setIfInBounds_toArray, List.set_cons_zero, List.set_cons_succ])
        (refine wpX_step (by rfl) (fun K hK => ?_); go_simp; first | (refine hK _ ?_; clear hK K) | (apply Exists.intro; refine ⟨fun _ => ?_, hK _ ?_⟩; exact C1.out _; clear hK K))
        iterate 3 (refine wpX_step (by rfl) (fun K hK => ?_); go_simp; first | (refine hK _ ?_; clear hK K) | (apply Exists.intro; refine ⟨fun _ => ?_, hK _ ?_⟩; fail; clear hK K))
        refine wpX_nil ?_
        intro y5 b5
        change wpList _ _ _ [_] _ _
        try simp only [Act.put, List.setIfInBounds_toArray, List.set_cons_zero, List.set_cons_succ]
        go_wp2_with fail
        go_ret2
        exact ⟨i, R, rfl, ⟨Nat.le_of_lt hil, hP.out.1, hP.out.2, Hfin.out⟩, Below.then hbel b5⟩
      · obtain rfl : i = n := by omega
        have hinz : ¬ (i : Int) < (i : Int) := by omega
        go_wp2_with fail
        refine wp_region_typed wr 15 (by kernel_rfl) (by kernel_rfl) (Below.refl _ _) ?_; simp only [List.take_succ_cons, List.take_zero, List.take_nil]
        iterate 15 (refine wpX_step (by rfl) (fun K hK => ?_); go_simp; first | (refine hK _ ?_; clear hK K) | (apply Exists.intro; refine ⟨fun _ => ?_, hK _ ?_⟩; fail; clear hK K))
        refine wpX_nil ?_
        intro y5 b5
        change wpList _ _ _ [_] _ _
        try simp only [Act.put, List.setIfInBounds_toArray, List.set_cons_zero, List.set_cons_succ]
        go_wp2_with fail
        go_ret2
        exact ⟨i, false, rfl, ⟨by rw [Hn.out]; exact Nat.le_refl _, hP.out.1, hP.out.2, ⟨fun h => by simp at h, fun ⟨hi, _⟩ => absurd hi (by rw [Hn.out]; omega)⟩⟩, Below.then hbel b5⟩
set_option maxHeartbeats 1000000 in
set_option maxRecDepth 100000 in
theorem find_any (a : Option Addr) (n c : Nat) (l : List Hol) (hn : l.length = n) (hs : Rising l) (A : List UInt8) (hA : A.length = 8) (hB : n ≤ 140737488355328) (w : World) (h : RowOf hols 15 w (.slice a n c) l) :
    Calls Try.prog 59 #[.slice a n c, .agg (by8 A).toArray] w fun e w' => ∃ (i : Nat) (ok : Bool), e = .returned (.tuple #[.int .i64 (i : Int), .bool ok]) ∧ FindP l (numL A) i ok ∧ Below w.heap.size w w' := by
  have z4 := Blk.new w 46 (by8 A)
  have hbel0 : Below w.heap.size w (w.alloc (.cells (by8 A).toArray 46)) := (Below.refl _ _).alloc (Nat.le_refl _) _
  have cb := fun u (hu : Below w.heap.size w u) => bsearch_any a n c l hn hs A hA hB u (h.below hu)
  obtain ⟨Y, hY⟩ : ∃ Y, Y = by8 A := ⟨_, rfl⟩
  have hlY : Y.length = 8 := by rw [hY, by8_len, hA]
  rw [← hY] at z4 hbel0 cb ⊢
  have Cb := Lib.hid cb
  clear cb hY hn hs hA h
  go_enter Try.func59, Try.ntmps59
  go_wp2_with (first
    | ((with_reducible show wpList _ _ _ (⟨some 7, _, _, _, _, _⟩ :: _) _ _); refine wpList_loadA (o := ⟨some 7, _, _, _, _, _⟩) (by rfl) 46 (.tmp 3) (by rfl) w.heap.size (by rfl) aggAddr z4 hlY ?_)
    | (go_at_call 113; refine (Cb.out _ hbel0).mono ?_; rintro e w2 ⟨i, ok, rfl, hF, b2⟩))
  go_ret2
  exact ⟨i, ok, rfl, hF, Below.then hbel0 b2⟩
end Go.Proofs.Ytakhaanenlblmaa
/- (Ws9) world.Get. -/
namespace Go.Proofs.Ytakhaanenlblmaa
open Go.RowKit
def zA : Acc := ⟨0, 0, .slice none 0 0, [], .slice none 0 0, []⟩
theorem zA_in (w : World) : zA.In w := ⟨RowOf.nil b8 1 w, RowOf.nil spc 8 w⟩
theorem zA_accs : accs zA = z7 := rfl
/-- what asking for an address answers -/
def GetR (l : List Hol) (t : Nat) (V : Nat × Nat × List UInt8 × List (Nat × Nat)) (E : Nat) : Prop :=
  (rightB l = false ∧ E = 1 ∧ V = zA.val) ∨ (rightB l = true ∧ E = 0 ∧ ((∃ (i : Nat) (hi : i < l.length), l[i].adr = t ∧ V = l[i].a.val) ∨ ((∀ (i : Nat) (hi : i < l.length), l[i].adr ≠ t) ∧ V = zA.val)))
theorem GetR.one {l : List Hol} {t : Nat} {V V' : Nat × Nat × List UInt8 × List (Nat × Nat)} {E E' : Nat} (h : GetR l t V E) (h' : GetR l t V' E') : V = V' ∧ E = E' := by
  rcases h with ⟨h1, rfl, rfl⟩ | ⟨h1, rfl, h2⟩
  · rcases h' with ⟨h3, rfl, rfl⟩ | ⟨h3, rfl, h4⟩
    · exact ⟨rfl, rfl⟩
    · rw [h1] at h3; cases h3
  · rcases h' with ⟨h3, rfl, rfl⟩ | ⟨h3, rfl, h4⟩
    · rw [h1] at h3; cases h3
    · refine ⟨?_, rfl⟩
      have hr := rising_of h1
      rcases h2 with ⟨i, hi, e1, rfl⟩ | ⟨n1, rfl⟩
      · rcases h4 with ⟨j, hj, e2, rfl⟩ | ⟨n2, rfl⟩
        · rcases Nat.lt_trichotomy i j with h | h | h
          · have := hr i j hi hj h; omega
          · subst h; rfl
          · have := hr j i hj hi h; omega
        · exact absurd e1 (n2 i hi)
      · rcases h4 with ⟨j, hj, e2, rfl⟩ | ⟨n2, rfl⟩
        · exact absurd e2 (n1 j hj)
        · rfl
def GetPost (l : List Hol) (t : Nat) (w : World) (e : Ending) (w' : World) : Prop := ∃ (a' : Acc) (E : Nat), e = .returned (.tuple #[.agg (accs a').toArray, .int .i64 (E : Int)]) ∧ GetR l t a'.val E ∧ a'.In w' ∧ Below w.heap.size w w'
set_option maxHeartbeats 2000000 in
set_option maxRecDepth 100000 in
theorem wget_any (a : Option Addr) (n c : Nat) (l : List Hol) (hn : l.length = n) (hk : ∀ h ∈ l, h.a.Ok) (hz : ∀ h ∈ l, h.a.Sz) (A : List UInt8) (hA : A.length = 8) (hB : n ≤ 140737488355328) (w : World) (h : RowOf hols 15 w (.slice a n c) l) (hi : ∀ h ∈ l, h.a.In w) :
    Calls Try.prog 20 #[.slice a n c, .agg (by8 A).toArray] w (GetPost l (numL A) w) := by
  obtain ⟨w1, hw1⟩ : ∃ w1, w1 = (w.alloc (.cells (by8 A).toArray 46)).alloc (.cells z7.toArray 49) := ⟨_, rfl⟩
  have z3 : Blk 46 w1 w.heap.size (by8 A) := by rw [hw1]; exact (Blk.new w _ _).alloc _
  have z4 : Blk 49 w1 (w.heap.size + 1) z7 := by
    rw [hw1]
    have := Blk.new (w.alloc (.cells (by8 A).toArray 46)) 49 z7
    simpa using this
  have hbel : Below w.heap.size w w1 := by rw [hw1]; exact ((Below.refl _ _).alloc (Nat.le_refl _) _).alloc (by simp) _
  have cr := right_any a n c l hn hk w1 (h.below hbel) (fun q hq => (hi q hq).below hbel)
  have hw := rising_of (l := l)
  obtain ⟨xR, hxR⟩ : ∃ x, x = rightB l := ⟨_, rfl⟩
  rw [← hxR] at cr hw
  have cf := fun (hr : xR = true) u (hu : Below w.heap.size w u) => find_any a n c l hn (hw hr) A hA hB u (h.below hu)
  obtain ⟨T, hT⟩ : ∃ T, T = numL A := ⟨_, rfl⟩
  rw [← hT] at cf ⊢
  obtain ⟨Y, hY⟩ : ∃ Y, Y = by8 A := ⟨_, rfl⟩
  have hlY : Y.length = 8 := by rw [hY, by8_len, hA]
  rw [← hY] at z3 hw1 cf ⊢
  have Cr := Lib.hid cr
  have Cf := Lib.hid cf
  have Hw1 := Lib.hid hw1
  have HxR := Lib.hid hxR
  have Hn := Lib.hid hn
  have Hz := Lib.hid hz
  have Hi := Lib.hid hi
  have hzo : ∀ u ∈ z7, u.oneCell' = true := by intro u hu; unfold z7 at hu; simp only [List.mem_cons, List.not_mem_nil, or_false] at hu; rcases hu with rfl | rfl | rfl | rfl | rfl | rfl | rfl <;> rfl
  clear cr cf hw1 hxR hT hY hn hz hi hk hw hA
  cases xR with
  | false =>
    go_enter Try.func20, Try.ntmps20
    go_wp2_with (first
      | (go_at_call 24; rw [show ((w.alloc (.cells Y.toArray 46)).alloc (.cells #[.int .u64 0, .int .u64 0, .int .u64 0, .int .u64 0, .int .u64 0, .slice none 0 0, .slice none 0 0] 49)) = w1 from Hw1.out.symm]; refine Cr.out.mono ?_; rintro e w2 ⟨rfl, b2⟩; have bb2 := Below.then hbel b2; have z42 := z4.kept b2)
      | ((with_reducible show wpList _ _ _ (⟨none, Op.store _ _ (Operand.tmp 11), _, _, _, _⟩ :: _) _ _); refine wpList_storeA (o := ⟨none, _, _, _, _, _⟩) (by rfl) 49 (.tmp 4) (.tmp 11) (by rfl) (w.heap.size + 1) z7 (by rfl) (by rfl) aggAcc z42 rfl rfl hzo bb2 (Nat.le_succ _) ?_; intro w5 hb5 bb5 _))
    refine bodyPost_ret (results_blk_tmp rfl _ _ (w.heap.size + 1) aggAcc hb5 rfl rfl rfl) rfl ?_
    exact ⟨zA, 1, rfl, .inl ⟨HxR.out.symm, rfl, rfl⟩, zA_in _, bb5⟩
  | true =>
    go_enter Try.func20, Try.ntmps20
    go_upto_region 4 with (first
      | (go_at_call 24; rw [show ((w.alloc (.cells Y.toArray 46)).alloc (.cells #[.int .u64 0, .int .u64 0, .int .u64 0, .int .u64 0, .int .u64 0, .slice none 0 0, .slice none 0 0] 49)) = w1 from Hw1.out.symm]; refine Cr.out.mono ?_; rintro e w2 ⟨rfl, b2⟩; have bb2 := Below.then hbel b2; have z42 := z4.kept b2; have z32 := z3.kept b2)
      | ((with_reducible show wpList _ _ _ (⟨some 14, _, _, _, _, _⟩ :: _) _ _); refine wpList_loadA (o := ⟨some 14, _, _, _, _, _⟩) (by rfl) 46 (.tmp 3) (by rfl) w.heap.size (by rfl) aggAddr z32 hlY ?_)
      | (go_at_call 59; refine (Cf.out (by trivial) _ bb2).mono ?_; rintro e w3 ⟨i, ok, rfl, hF, b3⟩; have bb3 := Below.then bb2 b3; have z43 := z42.kept b3; have HF := Lib.hid hF; clear hF))
    cases ok with
    | true =>
      obtain ⟨hil, hadr⟩ := HF.out.2.2.2.1 rfl
      have hiz : (i : Int) < (n : Int) := by have := Hn.out; omega
      have hin : i < n := by have := Hn.out; omega
      obtain ⟨b, off, rfl, hr⟩ := RowOf.range hols_len (h.below bb3) i hil
      have hsz := Hz.out _ (List.getElem_mem hil)
      have hii := (Hi.out _ (List.getElem_mem hil)).below bb3
      obtain ⟨q, hq⟩ : ∃ q, q = l[i] := ⟨_, rfl⟩
      rw [← hq] at hr hsz hii hadr
      have hra : w3.rangeAt b (off + i * 15 + 8) (accs q.a) := fun j v hv => by
        have := hr (8 + j) v (by rw [hols_from]; exact hv)
        rw [show off + i * 15 + 8 + j = off + i * 15 + (8 + j) from by omega]; exact this
      have co := own_any q.a hsz w3 hii
      have Hg : Hid (∀ V, V = q.a.val → GetR l T V 0) := Lib.hid (fun V hV => .inr ⟨HxR.out.symm, rfl, .inl ⟨i, hil, by rw [← hq]; exact hadr, by rw [← hq]; exact hV⟩⟩)
      obtain ⟨X, hX⟩ : ∃ X, X = accs q.a := ⟨_, rfl⟩
      have hlX : X.length = 7 := by rw [hX]; rfl
      rw [← hX] at hra co
      have Co := Lib.hid co
      clear co hX hr hsz hii hadr hq
      go_wp2_with (first
        | ((with_reducible show wpList _ _ _ (⟨some 23, _, _, _, _, _⟩ :: _) _ _); refine wpList_loadW (o := ⟨some 23, _, _, _, _, _⟩) 49 (.tmp 22) (by rfl) b (off + i * 15 + 8) (by rfl) aggAcc hlX hra (by rfl) ?_)
        | (go_at_call 60; refine Co.out.mono ?_; rintro e w4 ⟨a', rfl, hv, ho, b4⟩; have bb4 := Below.then bb3 b4; have z44 := z43.kept b4; have hoA := accs_one ho.In; obtain ⟨XA, hXA⟩ : ∃ X, X = accs a' := ⟨_, rfl⟩; have hXAl : XA.length = 7 := (by rw [hXA]; rfl); rw [← hXA] at hoA ⊢; have HXA := Lib.hid hXA; have Hv := Lib.hid hv; clear hXA hv)
        | ((with_reducible show wpList _ _ _ (⟨none, Op.store _ _ (Operand.tmp 24), _, _, _, _⟩ :: _) _ _); refine wpList_storeA (o := ⟨none, _, _, _, _, _⟩) (by rfl) 49 (.tmp 4) (.tmp 24) (by rfl) (w.heap.size + 1) XA (by rfl) (by rfl) aggAcc z44 hXAl rfl hoA bb4 (Nat.le_succ _) ?_; intro w5 hb5 bb5 g5))
      refine bodyPost_ret (results_blk_tmp rfl _ _ (w.heap.size + 1) aggAcc hb5 hXAl rfl rfl) rfl ?_
      have n5 := ho.c.notT z44 (by decide)
      have n6 := ho.s.notT z44 (by decide)
      exact ⟨a', 0, by rw [HXA.out]; rfl, Hg.out _ Hv.out, ⟨(ho.c.grown g5 (fun k hk e => n5 (by cases hk; exact e))).row, (ho.s.grown g5 (fun k hk e => n6 (by cases hk; exact e))).row⟩, bb5⟩
    | false =>
      have Hg : Hid (GetR l T zA.val 0) := Lib.hid (.inr ⟨HxR.out.symm, rfl, .inr ⟨fun j hj e => by
        have h1 := HF.out.2.1
        have h2 := HF.out.2.2.1
        have h3 := HF.out.2.2.2.2
        by_cases hji : j < i
        · have := h1 j hj hji; omega
        · have hil : i < l.length := by omega
          have h4 : l[i].adr ≠ T := fun e2 => by have := h3 ⟨hil, e2⟩; cases this
          have h5 := h2 i hil (Nat.le_refl _)
          by_cases hij : i = j
          · subst hij; exact h4 e
          · have := rising_of HxR.out.symm i j hil hj (by omega); omega, rfl⟩⟩)
      go_wp2_with ((with_reducible show wpList _ _ _ (⟨none, Op.store _ _ (Operand.tmp 25), _, _, _, _⟩ :: _) _ _); refine wpList_storeA (o := ⟨none, _, _, _, _, _⟩) (by rfl) 49 (.tmp 4) (.tmp 25) (by rfl) (w.heap.size + 1) z7 (by rfl) (by rfl) aggAcc z43 rfl rfl hzo bb3 (Nat.le_succ _) ?_; intro w5 hb5 bb5 _)
      refine bodyPost_ret (results_blk_tmp rfl _ _ (w.heap.size + 1) aggAcc hb5 rfl rfl rfl) rfl ?_
      exact ⟨zA, 0, rfl, Hg.out, zA_in _, bb5⟩
end Go.Proofs.Ytakhaanenlblmaa
/- (Ws10) copy of elements of many cells; slices.Insert of one holder: the laws. -/
namespace Go.Proofs.Ytakhaanenlblmaa
open Go.RowKit
theorem run_copy_rowK {P : Program} (w : World) (dT sT ty elem : TypeId) (size : Nat) (g o dLen dCap : Nat) (a : Addr) (sLen sCap : Nat) (cur : Array Value) (t : TypeId) (cs : List Value)
    (hu : P.underlying dT = some (.slice elem)) (hs : (P.info? elem).map (·.size) = some size)
    (hg : w.heap[g]? = some (.cells cur t (0, 0))) (hn : cs.length = Nat.min sLen dLen * size)
    (hsrc : ∀ j v, cs[j]? = some v → w.cell? (a.add j) = some v) (hfit : o + cs.length ≤ cur.size) (h1 : ∀ v ∈ cs, v.oneCell' = true) :
    (Builtin.copy_ #[dT, sT] ty #[.slice (some ⟨g, o, none⟩) dLen dCap, .slice (some a) sLen sCap]).run P w =
      .ok (goInt (Nat.min sLen dLen)) (w.setRow g (cur.toList.take o ++ cs ++ cur.toList.drop (o + cs.length)).toArray) := by
  have hl := run_firstCells_some (P := P) w size (Nat.min sLen dLen) a sLen sCap cs hn hsrc
  have hst := run_storeCells_at P g o t cs 0 cur w hg (by simpa using hfit) h1
  cases hq : P.info? elem with
  | none => simp [hq] at hs
  | some i =>
    have hi : i.size = size := by simpa [hq] using hs
    subst hi
    simp [Builtin.copy_, run_underlying hu, Builtin.lenOf, sizeOf, typeInfo, hq, hl, hst]
theorem wp_copyK {P : Program} {w : World} {o : Oper} {a : Act} {K : Act → World → Prop} {Q : Exit → Act → World → Prop} (d s : Operand) (t t' : TypeId)
    (ho : o.op = .call { callee := .builtin .copy, args := #[d, s], argTypes := #[t, t'] }) (v u : Value) (hd : a.eval d = v) (hs : a.eval s = u) {v' : Value} {w' : World}
    (hr : (Builtin.copy_ #[t, t'] o.type #[v, u]).run P w = .ok v' w') (h : K (a.put o.dst v') w') : o.wp P a w K Q := by
  unfold Oper.wp execOp
  simp only [ho, resolve, invoke, builtin, Sem.run_bind, Sem.run_pure, Result.andThen_ok, List.map_toArray, List.map_cons, List.map_nil, hd, hs, hr]
  exact h
theorem wpList_copyK {P : Program} {w : World} {ops : Array Oper} {rest : List Oper} {o : Oper} {a : Act} {Q : Exit → Act → World → Prop} (hgd : o.guard = none) (d s : Operand) (t t' : TypeId)
    (ho : o.op = .call { callee := .builtin .copy, args := #[d, s], argTypes := #[t, t'] }) (v u : Value) (hd : a.eval d = v) (hs : a.eval s = u) {v' : Value} {w' : World}
    (hr : (Builtin.copy_ #[t, t'] o.type #[v, u]).run P w = .ok v' w') (h : wpList P ops Q rest (a.put o.dst v') w') : wpList P ops Q (o :: rest) a w :=
  wpList_plain hgd fun _ hK => wp_copyK d s t t' ho v u hd hs hr (hK _ _ h)
theorem step_copyK {P : Program} {ops : Array Oper} {o : Oper} {a : Act} {w : World} {K : Act → World → Prop} {Q : Exit → Act → World → Prop} {E : Prop}
    (hg : o.guard = none) (d x : Operand) (dT sT : TypeId) (hop : o.op = Op.call { callee := Callee.builtin Builtin.copy, args := #[d, x], argTypes := #[dT, sT] })
    (v u : Value) (hd : a.eval d = v) (hx : a.eval x = u) {v' : Value} {w' : World} (hr : (Builtin.copy_ #[dT, sT] o.type #[v, u]).run P w = .ok v' w') (hK : K (a.put o.dst v') w') :
    if Region.wanted o (yielded ops a.tmps) = true then Oper.wp P o a w K Q else E := by
  have hw : Region.wanted o (yielded ops a.tmps) = true := by simp [Region.wanted, hg]
  rw [if_pos hw]
  exact wp_copyK d x dT sT hop v u hd hx hr hK
theorem wpList_appRun {P : Program} {w : World} {ops : Array Oper} {rest : List Oper} {o : Oper} {a : Act} {Q : Exit → Act → World → Prop} (hgd : o.guard = none) (d s : Operand) (t t' : TypeId)
    (ho : o.op = .call { callee := .builtin .append, args := #[d, s], argTypes := #[t, t'] }) (v u : Value) (hd : a.eval d = v) (hs : a.eval s = u) {v' : Value} {w' : World}
    (hr : (Builtin.append_ #[t, t'] o.type #[v, u]).run P w = .ok v' w') (h : wpList P ops Q rest (a.put o.dst v') w') : wpList P ops Q (o :: rest) a w := by
  refine wpList_plain hgd fun K hK => ?_
  unfold Oper.wp execOp
  simp only [ho, resolve, invoke, builtin, Sem.run_bind, Sem.run_pure, Result.andThen_ok, List.map_toArray, List.map_cons, List.map_nil, hd, hs, hr]
  exact hK _ _ h
theorem szH : (Try.prog.info? 130).map (·.size) = some 15 := by kernel_rfl
/-- 's[lo:hi]' of a row of one's own; 's[lo:]'; 's[:hi]' -/
theorem slLo (g n c lo : Nat) (h1 : lo ≤ n) (hlt : lo < c) (k : IntKind) (w : World) : (Instr.slice 44 (.slice (some ⟨g, 0, none⟩) n c) (some (.int k (lo : Int))) none none).run Try.prog w = .ok (.slice (some ⟨g, lo * 15, none⟩) (n - lo) (c - lo)) w := by
  have hel : Try.prog.elem 44 = 130 := by unfold Program.elem; rw [show Try.prog.underlying 44 = some (.slice 130) from Try.underlying44]
  rw [run_slice_l (P := Try.prog) w (t := 44) (a := some ⟨g, 0, none⟩) (len := n) (cap := c) (by rw [hel]; exact Try.underlying44) k (lo : Int) (by omega) (by omega)]
  rw [hel]
  have hs := szH
  have hne : ¬ c = lo := by omega
  cases hq : Try.prog.info? 130 with
  | none => simp [hq] at hs
  | some i =>
    have hi : i.size = 15 := by simpa [hq] using hs
    simp [sizeOf, typeInfo, hq, hi, sliced, Addr.add, hne]
    try omega
theorem slHi (g n c hi : Nat) (h1 : hi ≤ c) (h0 : 0 < c) (k : IntKind) (w : World) : (Instr.slice 44 (.slice (some ⟨g, 0, none⟩) n c) none (some (.int k (hi : Int))) none).run Try.prog w = .ok (.slice (some ⟨g, 0, none⟩) hi c) w := by
  have hel : Try.prog.elem 44 = 130 := by unfold Program.elem; rw [show Try.prog.underlying 44 = some (.slice 130) from Try.underlying44]
  rw [run_slice_h (P := Try.prog) w (t := 44) (a := some ⟨g, 0, none⟩) (len := n) (cap := c) (by rw [hel]; exact Try.underlying44) k (hi : Int) (by omega) (by omega)]
  rw [hel]
  have hs := szH
  have hne : ¬ c = 0 := by omega
  cases hq : Try.prog.info? 130 with
  | none => simp [hq] at hs
  | some i =>
    have hi : i.size = 15 := by simpa [hq] using hs
    simp [sizeOf, typeInfo, hq, hi, sliced, Addr.add, hne]
theorem slAny (v : Value) (a : Option Addr) (n c lo : Nat) (h1 : lo ≤ n) (k : IntKind) (w : World) : ∃ v', (Instr.slice 44 (.slice a n c) (some (.int k (lo : Int))) none none).run Try.prog w = .ok v' w := by
  have hel : Try.prog.elem 44 = 130 := by unfold Program.elem; rw [show Try.prog.underlying 44 = some (.slice 130) from Try.underlying44]
  rw [run_slice_l (P := Try.prog) w (t := 44) (a := a) (len := n) (cap := c) (by rw [hel]; exact Try.underlying44) k (lo : Int) (by omega) (by omega)]
  rw [hel]
  have hs := szH
  cases hq : Try.prog.info? 130 with
  | none => simp [hq] at hs
  | some i => exact ⟨sliced a lo n c i.size, by simp [sizeOf, typeInfo, hq]⟩
theorem splice_in (P X Z : List Value) (h : X.length ≤ Z.length) : (P ++ Z).take P.length ++ X ++ (P ++ Z).drop (P.length + X.length) = P ++ (X ++ Z.drop X.length) := by
  rw [List.take_left, List.append_assoc]
  congr 2
  rw [← List.drop_drop, List.drop_left]
theorem flat_hols (l : List Hol) : (l.flatMap hols).length = l.length * 15 := flat_len hols_len l
/-- a row of one's own out of what its block holds -/
theorem OwnOf.ofCells {e : TypeId} {w : World} {B g n c : Nat} {l : List Hol} {cs : List Value} (h : Blk e w g cs) (hc : cs.length = c * 15) (hn : n ≤ c) (hB : B ≤ g) (ht : cs.take (n * 15) = l.flatMap hols) (hl : l.length = n) (hm : c ≤ maxLen) : OwnOf hols 15 e w B (.slice (some ⟨g, 0, none⟩) n c) l := by
  subst hl
  exact ⟨flat_hols l, .inr ⟨g, c, cs.toArray, rfl, hB, h, hn, hm, by simpa using hc, by simpa using ht⟩⟩
theorem OwnOf.toCells {e : TypeId} {w : World} {B g n c : Nat} {l : List Hol} (h : OwnOf hols 15 e w B (.slice (some ⟨g, 0, none⟩) n c) l) : ∃ R, Blk e w g (l.flatMap hols ++ R) ∧ n = l.length ∧ n ≤ c ∧ c ≤ maxLen ∧ B ≤ g ∧ (l.flatMap hols ++ R).length = c * 15 := by
  obtain ⟨h1, h2⟩ := h
  rcases h2 with ⟨h2, h3⟩ | ⟨g', cap, cur, h2, h3, h4, h5, h6, h7, h8⟩
  · simp only [Value.slice.injEq] at h2; cases h2.1
  · simp only [Value.slice.injEq, Option.some.injEq, Addr.mk.injEq, and_true] at h2
    obtain ⟨rfl, rfl, rfl⟩ := h2
    have e1 : cur.toList = l.flatMap hols ++ cur.toList.drop (l.flatMap hols).length := by
      conv => lhs; rw [← List.take_append_drop (l.flatMap hols).length cur.toList]
      rw [h1, h8, ← h1]
    refine ⟨cur.toList.drop (l.flatMap hols).length, ?_, rfl, h5, h6, h3, ?_⟩
    · unfold Blk; rw [← e1]; simpa using h4
    · rw [← e1, Array.length_toList, h7]
end Go.Proofs.Ytakhaanenlblmaa
