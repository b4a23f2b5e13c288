/- (*Hasher).take. -/
import Derived.Test.YtohenjgegkgncaaSum2
import Derived.Test.YtohenjgegkgncaaRow
import Derived.Deep.MidRow
set_option linter.unusedSimpArgs false
set_option linter.unusedVariables false
namespace Go.Proofs.Ytohenjgegkgncaa
open Go.RowKit
/-- a Hasher's cells -/
def hst (st : List Int) (pt : List UInt8) (n : Nat) : List Value := u64s st ++ (pt.map u8v ++ [.int .i64 (n : Int)])
theorem hst_len {st : List Int} {pt : List UInt8} (h8 : st.length = 8) (h32 : pt.length = 32) (n : Nat) : (hst st pt n).length = 41 := by simp [hst, u64s, h8, h32]
theorem hst_st {st : List Int} (h : St st) (pt : List UInt8) (n j : Nat) (hj : j < 8) : (hst st pt n)[j]? = some (.int .u64 (st[j]?.getD 0)) := by
  unfold hst
  rw [List.getElem?_append_left (by rw [u64s_len h]; exact hj), u64s_at h j hj]
theorem hst_pt {st : List Int} (h : St st) {pt : List UInt8} (h32 : pt.length = 32) (n i : Nat) (hi : i < 32) : (hst st pt n)[8 + i]? = some (u8v (pt[i]?.getD 0)) := by
  unfold hst
  rw [List.getElem?_append_right (by rw [u64s_len h]; omega), u64s_len h, show 8 + i - 8 = i from by omega, List.getElem?_append_left (by simp; omega), List.getElem?_map, List.getElem?_eq_getElem (by omega)]
  rfl
theorem hst_n {st : List Int} (h : St st) {pt : List UInt8} (h32 : pt.length = 32) (n : Nat) : (hst st pt n)[40]? = some (.int .i64 (n : Int)) := by
  unfold hst
  rw [List.getElem?_append_right (by rw [u64s_len h]; omega), u64s_len h, List.getElem?_append_right (by simp; omega)]
  simp [h32]
theorem hst_set_n {st : List Int} (h : St st) {pt : List UInt8} (h32 : pt.length = 32) (n m : Nat) : (hst st pt n).set 40 (.int .i64 (m : Int)) = hst st pt m := by
  unfold hst
  rw [List.set_append_right _ _ (by rw [u64s_len h]; omega), u64s_len h, List.set_append_right _ _ (by simp; omega)]
  simp [h32]
theorem hst_set_pt {st : List Int} (h : St st) {pt : List UInt8} (h32 : pt.length = 32) (n i : Nat) (hi : i < 32) (x : UInt8) : (hst st pt n).set (8 + i) (u8v x) = hst st (pt.set i x) n := by
  unfold hst
  rw [List.set_append_right _ _ (by rw [u64s_len h]; omega), u64s_len h, show 8 + i - 8 = i from by omega, List.set_append_left _ _ (by simp; omega), List.map_set]
theorem hst_set_st {st : List Int} (h : St st) (pt : List UInt8) (n j : Nat) (hj : j < 8) (x : Int) : (hst st pt n).set j (.int .u64 x) = hst (st.set j x) pt n := by
  unfold hst
  rw [List.set_append_left _ _ (by rw [u64s_len h]; exact hj), u64s_set]
theorem grown_set {w u : World} {g : Nat} (h : w.grownBy u (some g)) (k : Nat) (x : Value) : w.grownBy (u.setCell ⟨g, k, none⟩ x) (some g) :=
  ⟨h.os, h.tape, h.output, by simpa using h.size, fun i hi hne => by rw [← h.block i hi hne]; exact heap_setCell_other u _ i _ (by simpa using hne)⟩
theorem grown_bel {w u v : World} {g : Nat} (h : w.grownBy u (some g)) (hb : Below u.heap.size u v) : w.grownBy v (some g) :=
  ⟨hb.os.trans h.os, hb.tape.trans h.tape, hb.output.trans h.output, Nat.le_trans h.size hb.size, fun i hi hne => (hb.block i (Nat.lt_of_lt_of_le hi h.size)).trans (h.block i hi hne)⟩
set_option maxHeartbeats 400000 in
set_option maxRecDepth 100000 in
theorem take_less (st : List Int) (pt : List UInt8) (n : Nat) (x : UInt8) (hs : St st) (h32 : pt.length = 32) (hn : n < 31) (g : Nat) (w : World) (hb : Blk 194 w g (hst st pt n)) :
    Calls Try.prog 153 #[.pointer (some ⟨g, 0, none⟩), .int .u8 (x.toNat : Int)] w fun e w' => e = .returned (.tuple #[]) ∧ Blk 194 w' g (hst st (pt.set n x) (n + 1)) ∧ w.grownBy w' (some g) := by
  have hc40 := (hb.cell 40).trans (hst_n hs h32 n)
  have k0 := fun u : Ext w => u.cell hc40
  have hni : (n : Int) < 32 := by omega
  have hn32 : n < 32 := by omega
  have hn1 : (n : Int) + 1 < 32 := by omega
  have h32' : (pt.set n x).length = 32 := by simpa using h32
  have H32 := Lib.hid h32
  have H32' := Lib.hid h32'
  clear h32 h32' hc40
  go_enter Try.func153, Try.ntmps153
  go_wp2
  refine wp_region_typed w 9 (by kernel_rfl) (by kernel_rfl) (Below.refl _ _) ?_; simp only [List.take_succ_cons, List.take_zero, List.take_nil]
  iterate 9 (refine wpX_step (by rfl) (fun K hK => ?_); go_simp; first | (refine hK _ ?_; clear hK K) | (apply Exists.intro; refine ⟨fun _ => ?_, hK _ ?_⟩; fail; clear hK K))
  refine wpX_nil ?_
  intro w1 hw1
  change wpList _ _ _ [_] _ _
  have hb1 := hb.kept hw1
  have hg1 := grown_bel (World.grownBy.refl w (some g)) hw1
  have hl1 := hst_len hs.1 H32.out n
  obtain ⟨y1, hy1⟩ := hb1.has (8 + n) (by rw [hl1]; omega)
  have hf1 := hb1.free (8 + n)
  have hb2 : Blk 194 (w1.setCell ⟨g, 8 + n, none⟩ (.int .u8 (x.toNat : Int))) g (hst st (pt.set n x) n) := by
    have := hb1.set (8 + n) (u8v x)
    rw [hst_set_pt hs H32.out n n hn32 x] at this
    exact this
  have hg2 := grown_set hg1 (8 + n) (.int .u8 (x.toNat : Int))
  have hc2 := (hb2.cell 40).trans (hst_n hs H32'.out n)
  have hf2 := hb2.free 40
  have hb3 : Blk 194 ((w1.setCell ⟨g, 8 + n, none⟩ (.int .u8 (x.toNat : Int))).setCell ⟨g, 40, none⟩ (.int .i64 ((n : Int) + 1))) g (hst st (pt.set n x) (n + 1)) := by
    have := hb2.set 40 (.int .i64 ((n + 1 : Nat) : Int))
    rw [hst_set_n hs H32'.out n (n + 1)] at this
    exact this
  have hg3 := grown_set hg2 40 (.int .i64 ((n : Int) + 1))
  have hc3 : ((w1.setCell ⟨g, 8 + n, none⟩ (.int .u8 (x.toNat : Int))).setCell ⟨g, 40, none⟩ (.int .i64 ((n : Int) + 1))).cell? ⟨g, 40, none⟩ = some (.int .i64 ((n : Int) + 1)) := (hb3.cell 40).trans (hst_n hs H32'.out (n + 1))
  clear k0 hl1
  go_wp2
  exact bodyPost_ret (results_none (by rfl) _ _ _) rfl ⟨rfl, hb3, hg3⟩
/-- cells, one behind the other -/
def setsL (cs : List Value) (o : Nat) : List Value → List Value
  | [] => cs
  | v :: vs => setsL (cs.set o v) (o + 1) vs
theorem setsL_app (b vs : List Value) (hl : b.length = vs.length) (r : List Value) : ∀ a : List Value, setsL (a ++ (b ++ r)) a.length vs = a ++ (vs ++ r) := by
  induction vs generalizing b with
  | nil =>
    obtain rfl : b = [] := List.eq_nil_of_length_eq_zero hl
    intro a; rfl
  | cons v vs ih =>
    intro a
    match b, hl with
    | x :: b, hl =>
      rw [setsL, List.set_append_right _ _ (Nat.le_refl _), Nat.sub_self, List.cons_append, List.set_cons_zero]
      have := ih b (by simpa using hl) (a ++ [v])
      simp only [List.length_append, List.length_cons, List.length_nil, List.append_assoc, List.cons_append, List.nil_append] at this
      exact this
theorem Blk.sets {e : TypeId} {g : Nat} (vs : List Value) : ∀ {w : World} {cs : List Value} (o : Nat), Blk e w g cs → Blk e (w.setCells g o vs) g (setsL cs o vs) := by
  induction vs with
  | nil => intro w cs o h; exact h
  | cons v vs ih => intro w cs o h; exact ih (o + 1) (h.set o v)
theorem grown_sets {w : World} {g : Nat} (vs : List Value) : ∀ {u : World} (o : Nat), w.grownBy u (some g) → w.grownBy (u.setCells g o vs) (some g) := by
  induction vs with
  | nil => intro u o h; exact h
  | cons v vs ih => intro u o h; exact ih (o + 1) (grown_set h o v)
theorem hst_sets {st st' : List Int} (h : St st) (h' : St st') (pt : List UInt8) (n : Nat) : setsL (hst st pt n) 0 (u64s st') = hst st' pt n := by
  have := setsL_app (u64s st) (u64s st') (by rw [u64s_len h, u64s_len h']) (pt.map u8v ++ [.int .i64 (n : Int)]) []
  simpa [hst] using this
/-- 'a[8 * j:]' of an array of 32 bytes. -/
theorem slice32 {t : TypeId} (ht : Try.prog.underlying t = some (.array (Try.prog.arrayLen t) (Try.prog.elem t))) (hl : Try.prog.arrayLen t = 32) (hs : (Try.prog.info? (Try.prog.elem t)).map (·.size) = some 1) (g o j : Nat) (hj : j < 4) (k : IntKind) (w : World) :
    (Instr.sliceAt t (.pointer (some ⟨g, o, none⟩)) (some (.int k (8 * (j : Int)))) none none).run Try.prog w = .ok (.slice (some ⟨g, o + 8 * j, none⟩) (32 - 8 * j) (32 - 8 * j)) w := by
  rw [run_sliceAt_array_l w t ⟨g, o, none⟩ ht k (8 * (j : Int)) (by omega) (by rw [hl]; omega), hl]
  have hadd : (⟨g, o, none⟩ : Addr).add (8 * j * 1) = ⟨g, o + 8 * j, none⟩ := by unfold Addr.add; split <;> simp_all
  have e : (8 * (j : Int)).toNat = 8 * j := by omega
  cases hq : Try.prog.info? (Try.prog.elem t) with
  | none => simp [hq] at hs
  | some q =>
    have hs1 : q.size = 1 := by simpa [hq] using hs
    have hsz : (sizeOf (Try.prog.elem t)).run Try.prog w = .ok 1 w := by simp [sizeOf, typeInfo, hq, hs1]
    rw [hsz]
    simp only [Result.andThen_ok, slicedAt]
    rw [e, if_neg (by omega), hadd]
theorem rdN_drop (p : List UInt8) (j m : Nat) : rdN (p.drop (8 * j)) 0 m = rdN p j m := by
  induction m with
  | zero => rfl
  | succ m ih => rw [rdN, rdN, ih, List.getElem?_drop, show 8 * j + (8 * 0 + m) = 8 * j + m from by omega]
/-- A slice over a part of a block. -/
theorem Blk.partRow {α : Type} {f : α → List Value} {c1 : α → Value} (hf : One f c1) {e : TypeId} {w : World} {g : Nat} {cs : List Value} (h : Blk e w g cs) (o n c : Nat) (l : List α) (hl : l.length = n) (hcs : ∀ (j : Nat) (u : Value), (l.map c1)[j]? = some u → cs[o + j]? = some u) (hc : n ≤ c) (hm : c ≤ maxLen) :
    RowOf f 1 w (.slice (some ⟨g, o, none⟩) n c) l := by
  subst hl
  refine ⟨by rw [hf.map, List.length_map, Nat.mul_one], _, _, rfl, hc, hm, .inr ⟨g, o, none, rfl, .inl rfl, fun j u hu => ?_⟩⟩
  rw [hf.map] at hu
  rw [h.cell]; exact hcs j u hu
theorem hst_row {st : List Int} (h : St st) {pt : List UInt8} (h32 : pt.length = 32) (n j : Nat) (hj : j < 4) {w : World} {g : Nat} (hb : Blk 194 w g (hst st pt n)) :
    Bytes w (.slice (some ⟨g, 8 + 8 * j, none⟩) (32 - 8 * j) (32 - 8 * j)) (pt.drop (8 * j)) := by
  refine Blk.partRow (c1 := u8v) (fun _ => rfl) hb (8 + 8 * j) (32 - 8 * j) (32 - 8 * j) _ (by simp [h32]) (fun i u hu => ?_) (Nat.le_refl _) (by unfold maxLen; omega)
  rw [List.getElem?_map, List.getElem?_drop] at hu
  have hi : 8 * j + i < 32 := by
    by_cases hlt : 8 * j + i < 32
    · exact hlt
    · rw [List.getElem?_eq_none (by omega)] at hu; cases hu
  rw [show 8 + 8 * j + i = 8 + (8 * j + i) from by omega, hst_pt h h32 n (8 * j + i) hi, ← hu, List.getElem?_eq_getElem (by omega)]
  rfl
set_option maxHeartbeats 800000 in
set_option maxRecDepth 100000 in
theorem take_full (st : List Int) (pt : List UInt8) (x : UInt8) (hs : St st) (h32 : pt.length = 32) (g : Nat) (w : World) (hb : Blk 194 w g (hst st pt 31)) :
    Calls Try.prog 153 #[.pointer (some ⟨g, 0, none⟩), .int .u8 (x.toNat : Int)] w fun e w' => e = .returned (.tuple #[]) ∧ Blk 194 w' g (hst (mixL (absK st (pt.set 31 x) 32) 12) (pt.set 31 x) 0) ∧ w.grownBy w' (some g) := by
  have hc40 := (hb.cell 40).trans (hst_n hs h32 31)
  have k0 : ∀ u : Ext w, u.val.cell? ⟨g, 40, none⟩ = some (.int .i64 31) := fun u => u.cell hc40
  have h32' : (pt.set 31 x).length = 32 := by simpa using h32
  have H32 := Lib.hid h32
  have H32' := Lib.hid h32'
  clear h32 h32' hc40
  go_enter Try.func153, Try.ntmps153
  go_wp2
  refine wp_region_typed w 9 (by kernel_rfl) (by kernel_rfl) (Below.refl _ _) ?_; simp only [List.take_succ_cons, List.take_zero, List.take_nil]
  iterate 9 (refine wpX_step (by rfl) (fun K hK => ?_); go_simp; first | (refine hK _ ?_; clear hK K) | (apply Exists.intro; refine ⟨fun _ => ?_, hK _ ?_⟩; fail; clear hK K))
  refine wpX_nil ?_
  intro w1 hw1
  change wpList _ _ _ [_] _ _
  have hb1 := hb.kept hw1
  have hg1 := grown_bel (World.grownBy.refl w (some g)) hw1
  have hl1 := hst_len hs.1 H32.out 31
  obtain ⟨y1, hy1⟩ := hb1.has 39 (by rw [hl1]; omega)
  have hf1 := hb1.free 39
  have hb2 : Blk 194 (w1.setCell ⟨g, 39, none⟩ (.int .u8 (x.toNat : Int))) g (hst st (pt.set 31 x) 31) := by
    have := hb1.set (8 + 31) (u8v x)
    rw [hst_set_pt hs H32.out 31 31 (by omega) x] at this
    exact this
  have hg2 := grown_set hg1 39 (.int .u8 (x.toNat : Int))
  have hc2 : (w1.setCell ⟨g, 39, none⟩ (.int .u8 (x.toNat : Int))).cell? ⟨g, 40, none⟩ = some (.int .i64 31) := (hb2.cell 40).trans (hst_n hs H32'.out 31)
  have hf2 := hb2.free 40
  obtain ⟨u2, hu2⟩ : ∃ u2, u2 = w1.setCell ⟨g, 39, none⟩ (.int .u8 (x.toNat : Int)) := ⟨_, rfl⟩
  have hb3 : Blk 194 ((w1.setCell ⟨g, 39, none⟩ (.int .u8 (x.toNat : Int))).setCell ⟨g, 40, none⟩ (.int .i64 32)) g (hst st (pt.set 31 x) 32) := by
    have := hb2.set 40 (.int .i64 ((32 : Nat) : Int))
    rw [hst_set_n hs H32'.out 31 32] at this
    exact this
  have hg3 := grown_set hg2 40 (.int .i64 32)
  have hc3 : ((w1.setCell ⟨g, 39, none⟩ (.int .u8 (x.toNat : Int))).setCell ⟨g, 40, none⟩ (.int .i64 32)).cell? ⟨g, 40, none⟩ = some (.int .i64 32) := (hb3.cell 40).trans (hst_n hs H32'.out 32)
  have hf3 := hb3.free 40
  have hb4 : Blk 194 (((w1.setCell ⟨g, 39, none⟩ (.int .u8 (x.toNat : Int))).setCell ⟨g, 40, none⟩ (.int .i64 32)).setCell ⟨g, 40, none⟩ (.int .i64 0)) g (hst (absK st (pt.set 31 x) 0) (pt.set 31 x) 0) := by
    have := hb3.set 40 (.int .i64 ((0 : Nat) : Int))
    rw [hst_set_n hs H32'.out 32 0, ← absK_zero hs (pt.set 31 x)] at this
    exact this
  have hg4 := grown_set hg3 40 (.int .i64 0)
  clear k0 hl1 hu2 u2
  go_wp2
  obtain ⟨pt2, hpt2⟩ : ∃ p, p = pt.set 31 x := ⟨_, rfl⟩
  rw [← hpt2] at hb4 H32'
  have Hpt2 := Lib.hid hpt2
  clear hpt2
  go_loopw [29] (fun ix wr => ∃ j : Nat, j ≤ 4 ∧ ix = .int .i64 (j : Int) ∧ Blk 194 wr g (hst (absK st pt2 (8 * j)) pt2 0) ∧ w.grownBy wr (some g)) (fun ix _ => 4 - (intOf ix).toNat)
  case atStart => exact ⟨0, by omega, rfl, hb4, hg4⟩
  case round =>
    clear hb hb1 hb2 hb3 hb4 hg1 hg2 hg3 hg4 hc2 hc3 hf1 hf2 hf3 hy1
    obtain ⟨j, hj, rfl, hb, hgr⟩ := hrel
    have hst' := absK_St st pt2 (8 * j)
    by_cases hlt : j < 4
    · have hrow := hst_row hst' H32'.out 0 j hlt hb
      have hcj := (hb.cell j).trans (hst_st hst' pt2 0 j (by omega))
      have k0 := fun u : Ext wr => u.cell hcj
      have hword := absK_word hs pt2 j hlt
      have hr8 := fun w h => read8_any (some ⟨g, 8 + 8 * j, none⟩) (32 - 8 * j) (32 - 8 * j) (pt2.drop (8 * j)) (by simp [H32'.out]) (by omega) w h
      rw [rdN_drop] at hr8
      obtain ⟨y, hy⟩ := (⟨_, rfl⟩ : ∃ y, y = (absK st pt2 (8 * j))[j]?.getD 0)
      obtain ⟨r, hr⟩ : ∃ r, r = rdN pt2 j 8 := ⟨_, rfl⟩
      rw [← hr] at hr8 hword
      rw [← hy] at hword
      simp only [← hy] at k0
      have Hr8 := Lib.hid hr8
      have Hrow := Lib.hid hrow
      have Hword := Lib.hid hword
      have hji : (j : Int) < 4 := by omega
      have hj8 : (j : Int) < 8 := by omega
      have hsl : (8 * (j : Int)).toNat = 8 * j := by omega
      have e1 : IntKind.i64.wrap (8 * (j : Int)) = 8 * (j : Int) := IntWalk.i64_in _ (by omega)
      have hs32 := fun k w => slice32 (t := 45) (by kernel_rfl) (by kernel_rfl) (by kernel_rfl) g 8 j hlt k w
      clear hr8 hrow hword hy hr hcj
      go_wp2
      refine wp_region_typed wr 17 (by kernel_rfl) (by kernel_rfl) (Below.refl _ _) ?_; simp only [List.take_succ_cons, List.take_zero, List.take_nil]
      iterate 12 (refine wpX_step (by rfl) (fun K hK => ?_); go_simp; first | (refine hK _ ?_; clear hK K) | (apply Exists.intro; refine ⟨fun _ => ?_, hK _ ?_⟩; fail; clear hK K))
      (refine wpX_step (by rfl) (fun K hK => ?_); go_simp; first | (refine hK _ ?_; clear hK K) | (apply Exists.intro; refine ⟨fun _ => ?_, hK _ ?_⟩; exact Hr8.out _ (Ext.row _ Hrow.out); clear hK K))
      iterate 4 (refine wpX_step (by rfl) (fun K hK => ?_); go_simp; first | (refine hK _ ?_; clear hK K) | (apply Exists.intro; refine ⟨fun _ => ?_, hK _ ?_⟩; fail; clear hK K))
      refine wpX_nil ?_
      intro u2 hb2
      change wpList _ _ _ [_] _ _
      have hbk := hb.kept hb2
      obtain ⟨yj, hyj⟩ := hbk.has j (by rw [hst_len hst'.1 H32'.out]; omega)
      have hfj := hbk.free j
      have hbs := hbk.set j (.int .u64 (bits .xor .u64 y (r : Int)))
      rw [hst_set_st hst' pt2 0 j (by omega), Hword.out] at hbs
      have hgs := grown_set (grown_bel hgr hb2) j (.int .u64 (bits .xor .u64 y (r : Int)))
      clear k0 hb hbk hs32
      go_wp2
      go_roundw
      case rel => exact ⟨j + 1, by omega, by go_num, hbs, hgs⟩
      case measure => simp [intOf]; omega
    · obtain rfl : j = 4 := by omega
      obtain ⟨S, hS⟩ : ∃ S, S = absK st pt2 (8 * 4) := ⟨_, rfl⟩
      rw [← hS] at hb hst'
      have HS := Lib.hid hS
      obtain ⟨M, hM⟩ : ∃ M, M = mixL S 12 := ⟨_, rfl⟩
      have hMst : St M := by rw [hM]; exact hst'.mix 12
      have HM := Lib.hid hM
      have hrange : wr.rangeAt g 0 (u64s S) := fun i v hv => by
        have hi : i < 8 := by
          have := (List.getElem?_eq_some_iff.1 hv).1
          rwa [u64s_len hst'] at this
        rw [Nat.zero_add, hb.cell, hst_st hst' pt2 0 i hi, ← hv, u64s_at hst' i hi]
      have cm : ∀ w, Calls Try.prog 161 #[.agg (u64s S).toArray] w fun e w' => e = .returned (.agg (u64s M).toArray) ∧ Below w.heap.size w w' := fun w => by rw [hM]; exact mix_any S hst' w
      have Cm := Lib.hid cm
      have hthere : ∀ u : World, Blk 194 u g (hst S pt2 0) → u.there g 0 (u64s M).toArray.size := fun u hu i hi => by
        have hi8 : i < 8 := by simpa [u64s_len hMst] using hi
        refine ⟨?_, hu.free (0 + i)⟩
        rw [Nat.zero_add, hu.cell, hst_st hst' pt2 0 i hi8]; rfl
      have Hthere := Lib.hid hthere
      clear hS hM cm hthere
      go_wp2_with (first
        | (refine wpList_load_mid (op := ⟨some 54, _, _, _, _, _⟩) (by rfl) 134 (.tmp 53) (by rfl) g 0 (by rfl) (u64s S) _ hrange Try.underlying134 (by rfl) (by rw [u64s_len hst']; kernel_rfl) ?_)
        | (go_at_call 161; (with_reducible refine (Cm.out _).mono ?_); rintro e u2 ⟨rfl, b2⟩; have hb2 := hb.kept b2; have hg2 := grown_bel hgr b2)
        | (refine wpList_store_mid (by rfl) 134 (.tmp 57) (.tmp 55) (by rfl) g 0 (u64s M).toArray (by rfl) (by rfl) (Hthere.out u2 hb2) (by rw [List.size_toArray, u64s_len hMst]; kernel_rfl) (all_oneCell_toArray (u64s_one M)) ?_))
      go_end0
      have hb3 := hb2.sets (u64s M) 0
      rw [hst_sets hst' hMst pt2 0] at hb3
      have hfin : M = mixL (absK st pt2 32) 12 := by rw [HM.out, HS.out]
      have hg3 := grown_sets (u64s M) 0 hg2
      exact ⟨rfl, by rw [← Hpt2.out, ← hfin]; exact hb3, hg3⟩
end Go.Proofs.Ytohenjgegkgncaa
