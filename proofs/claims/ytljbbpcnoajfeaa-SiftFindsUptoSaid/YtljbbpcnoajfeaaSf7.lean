/- slices.Clone of words and of bytes; found logs; sift.own. -/
import Derived.Test.YtljbbpcnoajfeaaSf2
import Derived.Test.YtljbbpcnoajfeaaOff
set_option linter.unusedSimpArgs false
set_option linter.unusedVariables false
namespace Go.Proofs.Ytljbbpcnoajfeaa
open Go.RowKit
theorem elWd : El Try.prog 34 142 (.agg z4.toArray) 4 32 wcs where
  ht := Try.underlying34
  hi := by kernel_rfl
  hzs := rfl
  hsz := by omega
  hf := wcs_len
  h1 := wcs_one
set_option maxHeartbeats 1000000 in
set_option maxRecDepth 100000 in
theorem fbclone_any (a : Option Addr) (n c : Nat) (ls : List (UInt8)) (hn : ls.length = n) (w : World) (h : RowOf b8 1 w (.slice a n c) ls) (hB : n * 1 ≤ 140737488355328) :
    Calls Try.prog 98 #[.slice a n c] w fun e w' => ∃ v, e = .returned v ∧ OwnOf b8 1 5 w' w.heap.size v ls ∧ Below w.heap.size w w' := by
  have hsm := h.small
  cases a with
  | none =>
    have h0 : ls = [] ∧ n = 0 := by
      obtain ⟨_, _, _, hv, _, _, h3⟩ := h
      rcases h3 with ⟨h1, h2, h3⟩ | ⟨b, off, s, h1, h2, h3⟩
      · exact ⟨List.eq_nil_of_length_eq_zero (by omega), by omega⟩
      · simp only [Value.slice.injEq] at hv
        rw [← hv.1] at h1
        simp at h1
    obtain ⟨rfl, rfl⟩ := h0
    have he : ∀ w : World, (binOp .eql 22 (.slice none 0 c) (.slice none 0 0)).run Try.prog w = .ok (.bool true) w := fun _ => rfl
    go_enter Try.func98, Try.ntmps98
    go_wp2
    go_ret
    exact ⟨_, rfl, OwnOf.nil b8 1 _ _ _, Below.refl _ _⟩
  | some p =>
    have Hn := Lib.hid hn
    have he : ∀ w : World, (binOp .eql 22 (.slice (some p) n c) (.slice none 0 0)).run Try.prog w = .ok (.bool false) w := fun _ => rfl
    go_enter Try.func98, Try.ntmps98
    go_wp2_with (refine wpList_appA (o := ⟨some 7, _, _, _, _, _⟩) (by rfl) (.tmp 5) (.tmp 6) 22 (by rfl) elU8 (by rfl) (OwnOf.empty b8 1 5 w w.heap.size (Nat.le_refl _)) (by rfl) (h.alloc _) (by simp) (by simp [Hn.out]; omega) (by simp only [List.length_nil]; omega) ?_; intro v2 w2 hA2 hg2 hl2)
    go_ret
    refine ⟨_, rfl, hA2, ?_⟩
    exact ((Below.refl _ _).alloc (Nat.le_refl _) (.cells #[] 5)).grown hg2 (by simp) (fun j hj => OwnOf.lt (OwnOf.empty b8 1 5 w w.heap.size (Nat.le_refl _)) j hj)
set_option maxHeartbeats 1000000 in
set_option maxRecDepth 100000 in
theorem fwclone_any (a : Option Addr) (n c : Nat) (ls : List Nat) (hn : ls.length = n) (w : World) (h : RowOf wcs 4 w (.slice a n c) ls) (hB : n * 32 ≤ 140737488355328) :
    Calls Try.prog 97 #[.slice a n c] w fun e w' => ∃ v, e = .returned v ∧ OwnOf wcs 4 142 w' w.heap.size v ls ∧ Below w.heap.size w w' := by
  have hsm := h.small
  cases a with
  | none =>
    have h0 : ls = [] ∧ n = 0 := by
      obtain ⟨_, _, _, hv, _, _, h3⟩ := h
      rcases h3 with ⟨h1, h2, h3⟩ | ⟨b, off, s, h1, h2, h3⟩
      · exact ⟨List.eq_nil_of_length_eq_zero (by omega), by omega⟩
      · simp only [Value.slice.injEq] at hv
        rw [← hv.1] at h1
        simp at h1
    obtain ⟨rfl, rfl⟩ := h0
    have he : ∀ w : World, (binOp .eql 34 (.slice none 0 c) (.slice none 0 0)).run Try.prog w = .ok (.bool true) w := fun _ => rfl
    go_enter Try.func97, Try.ntmps97
    go_wp2
    go_ret
    exact ⟨_, rfl, OwnOf.nil wcs 4 _ _ _, Below.refl _ _⟩
  | some p =>
    have Hn := Lib.hid hn
    have he : ∀ w : World, (binOp .eql 34 (.slice (some p) n c) (.slice none 0 0)).run Try.prog w = .ok (.bool false) w := fun _ => rfl
    go_enter Try.func97, Try.ntmps97
    go_wp2_with (refine wpList_appA (o := ⟨some 7, _, _, _, _, _⟩) (by rfl) (.tmp 5) (.tmp 6) 34 (by rfl) elWd (by rfl) (OwnOf.empty wcs 4 142 w w.heap.size (Nat.le_refl _)) (by rfl) (h.alloc _) (by simp) (by simp [Hn.out]; omega) (by simp only [List.length_nil]; omega) ?_; intro v2 w2 hA2 hg2 hl2)
    go_ret
    refine ⟨_, rfl, hA2, ?_⟩
    exact ((Below.refl _ _).alloc (Nat.le_refl _) (.cells #[] 142)).grown hg2 (by simp) (fun j hj => OwnOf.lt (OwnOf.empty wcs 4 142 w w.heap.size (Nat.le_refl _)) j hj)
theorem OwnOf.isBlkF {α : Type} {f : α → List Value} {size : Nat} {e : TypeId} {w : World} {B k : Nat} {v : Value} {l : List α} (h : OwnOf f size e w B v l) (hk : v.ownBlock = some k) : ∃ cs, Blk e w k cs := by
  rcases h.2 with ⟨rfl, _⟩ | ⟨g, cap, cur, rfl, _, hg, _⟩
  · cases hk
  · simp only [Value.ownBlock, Option.some.injEq] at hk
    subst hk
    exact ⟨cur.toList, by unfold Blk; simpa using hg⟩
theorem OwnOf.neF {α β : Type} {f : α → List Value} {f' : β → List Value} {size size' : Nat} {e e' : TypeId} {w : World} {B B' : Nat} {v v' : Value} {l : List α} {l' : List β} (h : OwnOf f size e w B v l) (h' : OwnOf f' size' e' w B' v' l') (hne : e ≠ e') : ∀ k, v'.ownBlock = some k → v.ownBlock ≠ some k := by
  intro k hk
  obtain ⟨cs, hc⟩ := h'.isBlkF hk
  exact h.notT hc hne
/-- a log that was found, with the values that it lies there as -/
structure Fdv where
  num : Nat
  hn : num < 18446744073709551616
  tx : Nat
  at_ : Nat
  l : Lgv
def fdc (x : Fdv) : List Value := [u64v x.num, .int .i64 (x.tx : Int), .int .i64 (x.at_ : Int)] ++ lgc x.l
theorem fdc_len (x : Fdv) : (fdc x).length = 13 := by unfold fdc; rw [List.length_append, lgc_len]; rfl
theorem aggFd : Agg Try.prog 86 13 := ⟨_, Try.underlying86, rfl, by kernel_rfl⟩
/-- what is told of it -/
def tel (x : Fdv) : Nat × Nat × Nat × List UInt8 × List Nat × List UInt8 := (x.num, x.tx, x.at_, x.l.addr, x.l.tops, x.l.dat)
structure OwnLg (u : World) (B : Nat) (l : Lgv) : Prop where
  t : OwnOf wcs 4 142 u B l.tv l.tops
  d : OwnOf b8 1 5 u B l.dv l.dat
theorem OwnLg.kept {u u' : World} {B : Nat} {l : Lgv} (h : OwnLg u B l) (hb : Below u.heap.size u u') : OwnLg u' B l := ⟨h.t.kept hb, h.d.kept hb⟩
theorem OwnLg.lower {u : World} {B B' : Nat} {l : Lgv} (h : OwnLg u B l) (hB : B' ≤ B) : OwnLg u B' l := ⟨h.t.lower hB, h.d.lower hB⟩
theorem OwnLg.In {u : World} {B : Nat} {l : Lgv} (h : OwnLg u B l) : l.In u := ⟨h.t.row, h.d.row⟩
theorem one_slice {v : Value} (h : ∃ a n c, v = .slice a n c) : v.oneCell' = true := by
  obtain ⟨a, n, c, rfl⟩ := h
  rfl
theorem fdc_one (x : Fdv) (h1 : ∃ a n c, x.l.tv = .slice a n c) (h2 : ∃ a n c, x.l.dv = .slice a n c) : ∀ u ∈ fdc x, u.oneCell' = true := by
  intro u hu
  unfold fdc at hu
  rcases List.mem_append.1 hu with hu | hu
  · simp only [List.mem_cons, List.not_mem_nil, or_false] at hu
    rcases hu with rfl | rfl | rfl <;> rfl
  · exact lgc_one x.l (one_slice h1) (one_slice h2) u hu
theorem fdc_tops (x : Fdv) : (fdc x)[11]? = some x.l.tv := by
  unfold fdc
  rw [List.getElem?_append_right (by simp)]
  exact lgc_tops x.l
theorem fdc_dat (x : Fdv) : (fdc x)[12]? = some x.l.dv := by
  unfold fdc
  rw [List.getElem?_append_right (by simp)]
  exact lgc_dat x.l
theorem fdc_log (x : Fdv) : ((fdc x).drop 3).take 10 = lgc x.l := by
  unfold fdc
  exact List.take_of_length_le (by show (lgc x.l).length ≤ 10; rw [lgc_len]; omega)
def z13 : List Value := [.int .u64 0, .int .i64 0, .int .i64 0, .int .u8 0, .int .u8 0, .int .u8 0, .int .u8 0, .int .u8 0, .int .u8 0, .int .u8 0, .int .u8 0, .slice none 0 0, .slice none 0 0]
theorem set_app (A B : List Value) (k n : Nat) (v : Value) (h : A.length = n) : (A ++ B).set (n + k) v = A ++ B.set k v := by
  rw [List.set_append_right _ _ (by omega), h]
  congr 2
  omega
theorem fdc_set (x : Fdv) (v1 v2 : Value) : ((fdc x).set 11 v1).set 12 v2 = fdc ⟨x.num, x.hn, x.tx, x.at_, ⟨x.l.addr, x.l.len, v1, x.l.tops, v2, x.l.dat⟩⟩ := by
  have e : ∀ y : Lgv, y.addr = x.l.addr → fdc ⟨x.num, x.hn, x.tx, x.at_, y⟩ = ([u64v x.num, .int .i64 (x.tx : Int), .int .i64 (x.at_ : Int)] ++ by8 x.l.addr) ++ [y.tv, y.dv] := by
    intro y hy
    unfold fdc lgc
    rw [hy, List.append_assoc]
  have hl : ([u64v x.num, .int .i64 (x.tx : Int), .int .i64 (x.at_ : Int)] ++ by8 x.l.addr).length = 11 := by rw [List.length_append, by8_len, x.l.len]; rfl
  rw [show fdc x = fdc ⟨x.num, x.hn, x.tx, x.at_, x.l⟩ from rfl, e x.l rfl, e ⟨x.l.addr, x.l.len, v1, x.l.tops, v2, x.l.dat⟩ rfl]
  rw [set_app _ _ 0 11 v1 hl]
  rw [set_app _ _ 1 11 v2 hl]
  rfl
def OwW (B : Nat) (l : List Nat) : Ty := fun v u => OwnOf wcs 4 142 u B v l
theorem OwW.mono (B : Nat) (l : List Nat) : Mono (OwW B l) := fun _ _ _ h hb => OwnOf.kept h hb
def OwB (B : Nat) (l : List UInt8) : Ty := fun v u => OwnOf b8 1 5 u B v l
theorem OwB.mono (B : Nat) (l : List UInt8) : Mono (OwB B l) := fun _ _ _ h hb => OwnOf.kept h hb
set_option maxHeartbeats 1000000 in
set_option maxRecDepth 100000 in
theorem fown_any (x : Fdv) (kx : x.l.Ok) (w : World) (h : x.l.In w) : Calls Try.prog 63 #[.agg (fdc x).toArray] w fun e w' => ∃ x' : Fdv, e = .returned (.agg (fdc x').toArray) ∧ tel x' = tel x ∧ OwnLg w' w.heap.size x'.l ∧ Below w.heap.size w w' := by
  obtain ⟨ca, cc, hcv, _⟩ := h.ht.form
  obtain ⟨sa, sc, hsv, _⟩ := h.hd.form
  obtain ⟨w1, hw1⟩ : ∃ w1, w1 = (w.alloc (.cells (fdc x).toArray 86)).alloc (.cells z13.toArray 86) := ⟨_, rfl⟩
  have z1 : Blk 86 w1 w.heap.size (fdc x) := by rw [hw1]; exact (Blk.new w _ _).alloc _
  have z2 : Blk 86 w1 (w.heap.size + 1) z13 := by
    rw [hw1]
    have := Blk.new (w.alloc (.cells (fdc x).toArray 86)) 86 z13
    simpa using this
  have hbel : Below w.heap.size w w1 := by rw [hw1]; exact ((Below.refl _ _).alloc (Nat.le_refl _) _).alloc (by simp) _
  have c5 : w1.cell? ⟨w.heap.size, 11, none⟩ = some (.slice ca x.l.tops.length cc) := by have := z1.cell 11; rw [fdc_tops, hcv] at this; exact this
  have c6 : w1.cell? ⟨w.heap.size, 12, none⟩ = some (.slice sa x.l.dat.length sc) := by have := z1.cell 12; rw [fdc_dat, hsv] at this; exact this
  have hC : RowOf wcs 4 w1 (.slice ca x.l.tops.length cc) x.l.tops := by rw [← hcv]; exact h.ht.below hbel
  have hS : Bytes w1 (.slice sa x.l.dat.length sc) x.l.dat := by rw [← hsv]; exact h.hd.below hbel
  have cb := fun u : Ext w1 => fwclone_any ca x.l.tops.length cc x.l.tops rfl u.val (hC.below u.bel) (by have := kx.t; omega)
  have cs := fun u : Ext w1 => fbclone_any sa x.l.dat.length sc x.l.dat rfl u.val (hS.below u.bel) (by have := kx.d; omega)
  obtain ⟨cn, hcn⟩ : ∃ n, n = x.l.tops.length := ⟨_, rfl⟩
  obtain ⟨sn, hsn⟩ : ∃ n, n = x.l.dat.length := ⟨_, rfl⟩
  rw [← hcn] at cb c5
  rw [← hsn] at cs c6
  obtain ⟨X, hX⟩ : ∃ X, X = fdc x := ⟨_, rfl⟩
  have hXl : X.length = 13 := by rw [hX]; exact fdc_len x
  have hXs : ∀ v5 v6 : Value, (X.set 11 v5).set 12 v6 = fdc ⟨x.num, x.hn, x.tx, x.at_, ⟨x.l.addr, x.l.len, v5, x.l.tops, v6, x.l.dat⟩⟩ := fun v5 v6 => by rw [hX]; exact fdc_set x v5 v6
  rw [← hX] at z1 hw1 ⊢
  have Hw1 := Lib.hid hw1
  have Cb := Lib.hid cb
  have Cs := Lib.hid cs
  have HXs := Lib.hid hXs
  have Hcn := Lib.hid hcn
  have Hsn := Lib.hid hsn
  clear hw1 cb cs hXs hX hcn hsn hcv hsv hC hS
  go_enter Try.func63, Try.ntmps63
  go_upto_region 1 with fail
  rw [show ((w.alloc (.cells X.toArray 86)).alloc (.cells #[.int .u64 0, .int .i64 0, .int .i64 0, .int .u8 0, .int .u8 0, .int .u8 0, .int .u8 0, .int .u8 0, .int .u8 0, .int .u8 0, .int .u8 0, .slice none 0 0, .slice none 0 0] 86)) = w1 from Hw1.out.symm]
  have k5 := fun u : Ext w1 => u.cell c5
  have k6 := fun u : Ext w1 => u.cell c6
  refine wp_region_typed w1 10 (by kernel_rfl) (by kernel_rfl) (Below.refl _ _) ?_; simp only [List.take_succ_cons, List.take_zero, List.take_nil]
  iterate 3 (refine wpX_step (by rfl) (fun K hK => ?_); go_simp; first | (refine hK _ ?_; clear hK K) | (apply Exists.intro; refine ⟨fun _ => ?_, hK _ ?_⟩; fail; clear hK K))
  refine wpX_rel 6 (OwW w1.heap.size x.l.tops) rfl (of_decide_eq_true rfl) (OwW.mono _ _) (fun w3 hw3 => ?_) ?_
  · show _ ∧ _
    refine ⟨by rfl, ?_⟩
    go_simp
    refine (Cb.out ⟨w3, hw3⟩).mono ?_
    rintro e w4 ⟨v, h1, h2, h3⟩
    exact ⟨v, h1, OwnOf.lower h2 hw3.size, h3⟩
  iterate 3 (refine wpX_step (by rfl) (fun K hK => ?_); go_simp; first | (refine hK _ ?_; clear hK K) | (apply Exists.intro; refine ⟨fun _ => ?_, hK _ ?_⟩; fail; clear hK K))
  refine wpX_rel 10 (OwB w1.heap.size x.l.dat) rfl (of_decide_eq_true rfl) (OwB.mono _ _) (fun w3 hw3 => ?_) ?_
  · show _ ∧ _
    refine ⟨by rfl, ?_⟩
    go_simp
    refine (Cs.out ⟨w3, hw3⟩).mono ?_
    rintro e w4 ⟨v, h1, h2, h3⟩
    exact ⟨v, h1, OwnOf.lower h2 hw3.size, h3⟩
  iterate 2 (refine wpX_step (by rfl) (fun K hK => ?_); go_simp; first | (refine hK _ ?_; clear hK K) | (apply Exists.intro; refine ⟨fun _ => ?_, hK _ ?_⟩; fail; clear hK K))
  refine wpX_nil ?_
  intro y5 b5
  show ∀ v5, OwW w1.heap.size x.l.tops v5 y5 → ∀ v8, OwB w1.heap.size x.l.dat v8 y5 → wpList _ _ _ [_, _, _, _] _ _
  intro v5 h5 v8 h8
  try simp only [Act.put, List.setIfInBounds_toArray, List.set_cons_zero, List.set_cons_succ]
  obtain ⟨a5, n5, rfl, _⟩ := OwnOf.form' h5 cn Hcn.out.symm
  obtain ⟨a8, n8, rfl, _⟩ := OwnOf.form' h8 sn Hsn.out.symm
  have z15 := z1.kept b5
  have z25 := z2.kept b5
  have q5 : y5.cell? ⟨w.heap.size, 11, none⟩ = some (.slice ca cn cc) := by rw [b5.cell (World.block_lt_of_cell? w1 _ c5)]; exact c5
  have q6 : y5.cell? ⟨w.heap.size, 12, none⟩ = some (.slice sa sn sc) := by rw [b5.cell (World.block_lt_of_cell? w1 _ c6)]; exact c6
  have f5 := z15.free 11
  have f6 := z15.free 12
  clear k5 k6
  go_upto_region 2 with fail
  have z16 := (z15.set 11 (.slice a5 cn n5)).set 12 (.slice a8 sn n8)
  rw [HXs.out] at z16
  have z26 := (z25.other ⟨w.heap.size, 11, none⟩ (by show w.heap.size ≠ w.heap.size + 1; omega) (.slice a5 cn n5)).other ⟨w.heap.size, 12, none⟩ (by show w.heap.size ≠ w.heap.size + 1; omega) (.slice a8 sn n8)
  have n5' := h5.notT z15 (by decide)
  have n8' := h8.notT z15 (by decide)
  have o5 := (OwnOf.grown h5 (grown_cell (w := y5) (g := w.heap.size) 11 (.slice a5 cn n5)) (fun k hk e => n5' (by cases hk; exact e))).grown (grown_cell 12 (.slice a8 sn n8)) (fun k hk e => n5' (by cases hk; exact e))
  have o8 := (OwnOf.grown h8 (grown_cell (w := y5) (g := w.heap.size) 11 (.slice a5 cn n5)) (fun k hk e => n8' (by cases hk; exact e))).grown (grown_cell 12 (.slice a8 sn n8)) (fun k hk e => n8' (by cases hk; exact e))
  have bb6 := ((Below.then hbel b5).setCell (p := ⟨w.heap.size, 11, none⟩) (Nat.le_refl _) (.slice a5 cn n5)).setCell (p := ⟨w.heap.size, 12, none⟩) (Nat.le_refl _) (.slice a8 sn n8)
  obtain ⟨y6, hy6⟩ : ∃ x, x = (y5.setCell ⟨w.heap.size, 11, none⟩ (.slice a5 cn n5)).setCell ⟨w.heap.size, 12, none⟩ (.slice a8 sn n8) := ⟨_, rfl⟩
  rw [← hy6] at z16 z26 o5 o8 bb6
  try simp only [← hy6]
  obtain ⟨Z, hZ⟩ : ∃ Z : Fdv, Z = ⟨x.num, x.hn, x.tx, x.at_, ⟨x.l.addr, x.l.len, .slice a5 cn n5, x.l.tops, .slice a8 sn n8, x.l.dat⟩⟩ := ⟨_, rfl⟩
  rw [← hZ] at z16
  obtain ⟨Y, hY⟩ : ∃ Y, Y = fdc Z := ⟨_, rfl⟩
  have hYl : Y.length = 13 := by rw [hY]; exact fdc_len _
  have hYo : ∀ u ∈ Y, u.oneCell' = true := by
    rw [hY]
    exact fdc_one Z (by rw [hZ]; exact ⟨_, _, _, rfl⟩) (by rw [hZ]; exact ⟨_, _, _, rfl⟩)
  rw [← hY] at z16
  have HY := Lib.hid hY
  have HZ := Lib.hid hZ
  clear hY hZ hy6 q5 q6 f5 f6 z15 z25 h5 h8
  go_wp2_with (first
    | ((with_reducible show wpList _ _ _ (⟨some 15, _, _, _, _, _⟩ :: _) _ _); refine wpList_loadA (o := ⟨some 15, _, _, _, _, _⟩) (by rfl) 86 (.tmp 1) (by rfl) w.heap.size (by rfl) aggFd z16 hYl ?_)
    | ((with_reducible show wpList _ _ _ (⟨none, Op.store _ _ (Operand.tmp 15), _, _, _, _⟩ :: _) _ _); refine wpList_storeA (o := ⟨none, _, _, _, _, _⟩) (by rfl) 86 (.tmp 2) (.tmp 15) (by rfl) (w.heap.size + 1) Y (by rfl) (by rfl) aggFd z26 hYl rfl hYo (Below.refl (w.heap.size + 1) y6) (Nat.le_refl _) ?_; intro y7 z7' _ g7))
  refine bodyPost_ret (results_blk rfl _ _ (w.heap.size + 1) aggFd z7' hYl rfl) rfl ?_
  have m5 := o5.notT z26 (by decide)
  have m8 := o8.notT z26 (by decide)
  refine ⟨Z, by rw [HY.out], by rw [HZ.out]; rfl, ?_, bb6.grown g7 bb6.size (fun k hk => by cases hk; exact Nat.le_succ _)⟩
  rw [HZ.out]
  exact ⟨(o5.grown g7 (fun k hk e => m5 (by cases hk; exact e))).lower hbel.size, (o8.grown g7 (fun k hk e => m8 (by cases hk; exact e))).lower hbel.size⟩
end Go.Proofs.Ytljbbpcnoajfeaa
