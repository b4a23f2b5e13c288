/- The reference's RRead. -/
import Derived.Test.YtnhbfnegpjkojaaTx4
import Derived.Test.YtnhbfnegpjkojaaTx6
set_option linter.unusedSimpArgs false
set_option linter.unusedVariables false
namespace Go.Proofs.Ytnhbfnegpjkojaa
open Go.RowKit
structure RyW (w w1 : World) (g4 gh : Nat) (box cs : List Value) (u : World) : Prop where
  hb : Below w.heap.size w u
  hk : Below w1.heap.size w1 u
  hz : Blk 77 u w.heap.size (txcs zX (.slice none 0 0))
  h4 : Blk 156 u g4 box
  hh : Blk 77 u gh cs
  h0 : w.heap.size < w1.heap.size
  h1 : w1.heap.size ≤ g4
  h2 : g4 < gh
theorem RyW.kept {w w1 u u' : World} {g4 gh : Nat} {box cs : List Value} (h : RyW w w1 g4 gh box cs u) (hb : Below u.heap.size u u') : RyW w w1 g4 gh box cs u' :=
  ⟨Below.then h.hb hb, Below.then h.hk hb, h.hz.kept hb, h.h4.kept hb, h.hh.kept hb, h.h0, h.h1, h.h2⟩
theorem RyW.set {w w1 u : World} {g4 gh : Nat} {box cs : List Value} (h : RyW w w1 g4 gh box cs u) (i : Nat) (v : Value) : RyW w w1 g4 gh box (cs.set i v) (u.setCell ⟨gh, i, none⟩ v) := by
  have h0 := h.h0
  have h1 := h.h1
  have h2 := h.h2
  exact ⟨h.hb.setCell (by show _ ≤ gh; omega) _, h.hk.setCell (by show _ ≤ gh; omega) _, h.hz.other _ (by simp; omega) _, h.h4.other _ (by simp; omega) _, h.hh.set i v, h0, h1, h2⟩
theorem RyW.put {w w1 u u' : World} {g4 gh : Nat} {box cs cs' : List Value} (h : RyW w w1 g4 gh box cs u) (hb : Below gh u u') (hh : Blk 77 u' gh cs') : RyW w w1 g4 gh box cs' u' := by
  have h0 := h.h0
  have h1 := h.h1
  have h2 := h.h2
  exact ⟨h.hb.trans (hb.mono (by omega)), h.hk.trans (hb.mono (by omega)), h.hz.below hb (by omega), h.h4.below hb (by omega), hh, h0, h1, h2⟩
/-- the worlds in which what lies below g is as it was -/
def BeX (g : Nat) (w0 u : World) : Prop := Below g w0 u
/-- two addresses, and the rest -/
def tx3 (F T : List UInt8) (L : List Value) : List Value := by8 F ++ (by8 T ++ L)
theorem tx3_set {F T : List UInt8} (hF : F.length = 8) (hT : T.length = 8) (L : List Value) (i : Nat) (v : Value) : (tx3 F T L).set (16 + i) v = tx3 F T (L.set i v) := by
  unfold tx3
  rw [List.set_append_right _ _ (by rw [by8_len]; omega), List.set_append_right _ _ (by rw [by8_len, by8_len]; omega), by8_len, by8_len, hF, hT]
  rw [show 16 + i - 8 - 8 = i by omega]
theorem tx3_get {F T : List UInt8} (hF : F.length = 8) (hT : T.length = 8) (L : List Value) (i : Nat) : (tx3 F T L)[16 + i]? = L[i]? := by
  unfold tx3
  rw [List.getElem?_append_right (by rw [by8_len]; omega), List.getElem?_append_right (by rw [by8_len, by8_len]; omega), by8_len, by8_len, hF, hT]
  rw [show 16 + i - 8 - 8 = i by omega]
theorem tx3_len {F T : List UInt8} (hF : F.length = 8) (hT : T.length = 8) (L : List Value) : (tx3 F T L).length = 16 + L.length := by
  unfold tx3; simp only [List.length_append, by8_len, hF, hT]; omega
theorem tx3_frm (T : List UInt8) (L : List Value) (P : List UInt8) : splice (tx3 (zeroB 8) T L) 0 (by8 (P.take 8)) = tx3 (cpy 8 P) T L := splice_at [] (by8 T ++ L) (zeroB 8) P 0 8 rfl rfl
theorem tx3_to {F : List UInt8} (hF : F.length = 8) (L : List Value) (P : List UInt8) : splice (tx3 F (zeroB 8) L) 8 (by8 (P.take 8)) = tx3 F (cpy 8 P) L := splice_at (by8 F) L (zeroB 8) P 8 8 (by rw [by8_len, hF]) rfl
theorem tx3_zero : txcs zX (.slice none 0 0) = tx3 (zeroB 8) (zeroB 8) [.bool false, .int .u64 0, .int .u64 0, .int .u64 0, .int .u64 0, .int .u64 0, .int .u64 0, .int .u64 0, .slice none 0 0] := rfl
theorem RyW.val {w w1 u : World} {g4 gh : Nat} {box : List Value} {F T : List UInt8} {m n1 n2 n3 a0 a1 a2 a3 d : Value} (hF : F.length = 8) (hT : T.length = 8) (h : RyW w w1 g4 gh box (tx3 F T [m, n1, n2, n3, a0, a1, a2, a3, d]) u) (V : Nat) : RyW w w1 g4 gh box (tx3 F T ([m, n1, n2, n3] ++ (wcs V ++ [d]))) (u.setCells gh 20 (wcs V)) := by
  have h1 := (((h.set (16 + 4) (u64v (lim V 0))).set (16 + 5) (u64v (lim V 1))).set (16 + 6) (u64v (lim V 2))).set (16 + 7) (u64v (lim V 3))
  rw [tx3_set hF hT, tx3_set hF hT, tx3_set hF hT, tx3_set hF hT] at h1
  exact h1
def BytesT (T : List UInt8) : Ty := fun v w => Bytes w v T
theorem BytesT.mono (T : List UInt8) : Mono (BytesT T) := fun _ _ _ h hb => RowOf.kept h hb
set_option maxHeartbeats 2000000 in
set_option maxRecDepth 100000 in
theorem rread_bad1 (a : Option Addr) (L c : Nat) (b : List UInt8) (hL : b.length = L) (hLs : L ≤ 1048576) (hbad : decE b ≠ 0) (w : World) (h : Bytes w (.slice a L c) b) : Calls Try.prog 37 #[.slice a L c] w (ReadX b w) := by
  have hE := decE_01 b hbad
  have hpost : ∀ u, Below w.heap.size w u → ReadX b w (.returned (.tuple #[.agg (txcs zX (.slice none 0 0)).toArray, .int .i64 1])) u := fun u hu => ⟨zX, 1, none, 0, 0, rfl, zX_ok, rdx_form (.inl hbad), RowOf.nil b8 1 u, hu⟩
  have hz := Blk.new w 77 (txcs zX (.slice none 0 0))
  have hbel : Below w.heap.size w (w.alloc (.cells (txcs zX (.slice none 0 0)).toArray 77)) := (Below.refl _ _).alloc (Nat.le_refl _) _
  have cc := fun u (hu : Bytes u (.slice a L c) b) => pdecode_any a L c b hL hLs u hu
  rw [hE] at cc
  have C := Lib.hid cc
  have Hpost := Lib.hid hpost
  clear cc hE hbad hL hLs hpost
  go_enter Try.func37, Try.ntmps37
  go_wp2_with (first
    | (go_at_call 86; (with_reducible refine (C.out _ (h.alloc _)).mono ?_); rintro e w1 ⟨it, rfl, b1, hF, hbare, he⟩; have hz1 := hz.kept b1; have hbel1 := Below.then hbel b1; obtain ⟨l, tv, t, kv, ks⟩ := it; obtain ⟨ta, tc, rfl, _, _⟩ := hF.is.inv.1.form; obtain ⟨ka, kc, rfl, _, _⟩ := hF.is.inv.2.1.form; clear hF hbare he; simp only [icells])
    | ((with_reducible show wpList _ _ _ (⟨none, Op.store _ _ (Operand.tmp 10), _, _, _, _⟩ :: _) _ _); refine wpList_storeA (o := ⟨none, _, _, _, _, _⟩) (by rfl) 156 (.tmp 4) (.tmp 10) (by rfl) w1.heap.size [.bool l, .slice ta t.length tc, .slice ka ks.length kc] (by rfl) (by rfl) aggItem (Blk.new w1 156 [.bool false, .slice none 0 0, .slice none 0 0]) (by rfl) (by rfl) (by intro u hu; simp at hu; rcases hu with rfl | rfl | rfl <;> rfl) (((Below.refl w1.heap.size w1).alloc (Nat.le_refl _) (.cells #[.bool false, .slice none 0 0, .slice none 0 0] 156))) (Nat.le_refl _) ?_; intro w4 h4 b4 _; have hz4 := hz1.kept b4; have hbel4 := Below.then hbel1 b4)
    | ((with_reducible show wpList _ _ _ (⟨none, Op.store _ _ (Operand.tmp 20), _, _, _, _⟩ :: _) _ _); refine wpList_storeA (o := ⟨none, _, _, _, _, _⟩) (by rfl) 77 (.tmp 2) (.tmp 20) (by rfl) w.heap.size (txcs zX (.slice none 0 0)) (by rfl) (by rfl) aggTx hz4 (by rfl) (by rfl) (txcs_one _ _ _ _) hbel4 (Nat.le_refl _) ?_; intro w5 hh5 hbel5 _))
  exact bodyPost_ret (v := .tuple #[.agg (txcs zX (.slice none 0 0)).toArray, .int .i64 1]) (results_blk_tmp rfl _ _ w.heap.size aggTx hh5 (by rfl) rfl rfl) rfl (Hpost.out _ hbel5)
set_option maxHeartbeats 2000000 in
set_option maxRecDepth 100000 in
theorem rread_bad2 (a : Option Addr) (L c : Nat) (b : List UInt8) (hL : b.length = L) (hLs : L ≤ 1048576) (hE : decE b = 0) (hbad : kidsN (decP b) ≠ 8) (w : World) (h : Bytes w (.slice a L c) b) : Calls Try.prog 37 #[.slice a L c] w (ReadX b w) := by
  have hpost : ∀ u, Below w.heap.size w u → ReadX b w (.returned (.tuple #[.agg (txcs zX (.slice none 0 0)).toArray, .int .i64 1])) u := fun u hu => ⟨zX, 1, none, 0, 0, rfl, zX_ok, rdx_form (.inr (.inl hbad)), RowOf.nil b8 1 u, hu⟩
  have hz := Blk.new w 77 (txcs zX (.slice none 0 0))
  have hbel : Below w.heap.size w (w.alloc (.cells (txcs zX (.slice none 0 0)).toArray 77)) := (Below.refl _ _).alloc (Nat.le_refl _) _
  have cc := fun u (hu : Bytes u (.slice a L c) b) => pdecode_any a L c b hL hLs u hu
  rw [hE] at cc
  have C := Lib.hid cc
  have Hpost := Lib.hid hpost
  have Hbad := Lib.hid hbad
  clear cc hE hbad hL hLs hpost
  go_enter Try.func37, Try.ntmps37
  go_wp2_with (first
    | (go_at_call 86; (with_reducible refine (C.out _ (h.alloc _)).mono ?_); rintro e w1 ⟨it, rfl, b1, hF, hbare, he⟩; have hz1 := hz.kept b1; have hbel1 := Below.then hbel b1; obtain ⟨l, tv, t, kv, ks⟩ := it; have hkk := (kids_of hbare he).1; obtain ⟨ta, tc, rfl, _, _⟩ := hF.is.inv.1.form; obtain ⟨ka, kc, rfl, _, _⟩ := hF.is.inv.2.1.form; obtain ⟨kn, hkn⟩ : ∃ kn, kn = ks.length := ⟨_, rfl⟩; change ks.length = _ at hkk; rw [← hkn] at hkk; have hne : ((kn : Int) != 8) = true := (by rw [bne_iff_ne]; intro e; exact Hbad.out (by omega)); rw [← hkn]; clear hF hbare he hkk hkn; simp only [icells])
    | ((with_reducible show wpList _ _ _ (⟨none, Op.store _ _ (Operand.tmp 10), _, _, _, _⟩ :: _) _ _); refine wpList_storeA (o := ⟨none, _, _, _, _, _⟩) (by rfl) 156 (.tmp 4) (.tmp 10) (by rfl) w1.heap.size [.bool l, .slice ta t.length tc, .slice ka kn kc] (by rfl) (by rfl) aggItem (Blk.new w1 156 [.bool false, .slice none 0 0, .slice none 0 0]) (by rfl) (by rfl) (by intro u hu; simp at hu; rcases hu with rfl | rfl | rfl <;> rfl) (((Below.refl w1.heap.size w1).alloc (Nat.le_refl _) (.cells #[.bool false, .slice none 0 0, .slice none 0 0] 156))) (Nat.le_refl _) ?_; intro w4 h4 b4 _; have hz4 := hz1.kept b4; have hbel4 := Below.then hbel1 b4; have c42 : w4.cell? ⟨w1.heap.size, 2, none⟩ = some (.slice ka kn kc) := h4.cell 2)
    | ((with_reducible show wpList _ _ _ (⟨none, Op.store _ _ (Operand.tmp 20), _, _, _, _⟩ :: _) _ _); refine wpList_storeA (o := ⟨none, _, _, _, _, _⟩) (by rfl) 77 (.tmp 2) (.tmp 20) (by rfl) w.heap.size (txcs zX (.slice none 0 0)) (by rfl) (by rfl) aggTx hz4 (by rfl) (by rfl) (txcs_one _ _ _ _) hbel4 (Nat.le_refl _) ?_; intro w5 hh5 hbel5 _))
  exact bodyPost_ret (v := .tuple #[.agg (txcs zX (.slice none 0 0)).toArray, .int .i64 1]) (results_blk_tmp rfl _ _ w.heap.size aggTx hh5 (by rfl) rfl rfl) rfl (Hpost.out _ hbel5)
set_option maxHeartbeats 4000000 in
set_option maxRecDepth 100000 in
theorem rread_good (a : Option Addr) (L c : Nat) (b : List UInt8) (hL : b.length = L) (hLs : L ≤ 1048576) (hE : decE b = 0) (h8 : kidsN (decP b) = 8) (w : World) (h : Bytes w (.slice a L c) b) : Calls Try.prog 37 #[.slice a L c] w (ReadX b w) := by
  have hz := Blk.new w 77 (txcs zX (.slice none 0 0))
  have hbel : Below w.heap.size w (w.alloc (.cells (txcs zX (.slice none 0 0)).toArray 77)) := (Below.refl _ _).alloc (Nat.le_refl _) _
  have hlt0 := hz.lt
  have cc := fun u (hu : Bytes u (.slice a L c) b) => pdecode_any a L c b hL hLs u hu
  rw [hE] at cc
  obtain ⟨TS, hTS⟩ : ∃ T, T = kidT (decP b) := ⟨_, rfl⟩
  have htl : ∀ t ∈ TS, t.length ≤ 1048576 := fun t ht => by
    rw [hTS] at ht
    cases hd : dec b with
    | none => unfold decE at hE; rw [hd] at hE; cases hE
    | some p =>
      have hp : decP b = p := by unfold decP; rw [hd]; rfl
      have hb := dec_back hd
      have := kidT_le p t (by rw [← hp]; exact ht)
      rw [← hb] at this
      omega
  have C := Lib.hid cc
  have H8 := Lib.hid h8
  have HTS := Lib.hid hTS
  have Htl := Lib.hid htl
  clear cc hE hLs h8 hTS htl
  go_enter Try.func37, Try.ntmps37
  go_wp2_with (first
    | (go_at_call 86; (with_reducible refine (C.out _ (h.alloc _)).mono ?_); rintro e w1 ⟨it, rfl, b1, hF, hbare, he⟩; have hz1 := hz.kept b1; have hbel1 := Below.then hbel b1; have hs1 := Nat.lt_of_lt_of_le hlt0 b1.size; obtain ⟨l, tv, t, kv, ks⟩ := it; obtain ⟨hkk, _, hkt⟩ := kids_of hbare he; change ks.length = _ at hkk; change ks.map itt = _ at hkt; rw [H8.out] at hkk; obtain ⟨ta, tc, rfl, _, _⟩ := hF.is.inv.1.form; have hrow := hF.is.inv.2.1; obtain ⟨ka, kc, rfl, _⟩ := hrow.form' 8 hkk; obtain ⟨kb, ko, rfl, hkx⟩ := kid_textsF hF (by omega); rw [hkt, ← HTS.out] at hkx; rw [hkk] at hkx; have Hkx := Lib.hid hkx; clear hF hbare he hkk hkt hrow hkx; simp only [icells])
    | ((with_reducible show wpList _ _ _ (⟨none, Op.store _ _ (Operand.tmp 10), _, _, _, _⟩ :: _) _ _); refine wpList_storeA (o := ⟨none, _, _, _, _, _⟩) (by rfl) 156 (.tmp 4) (.tmp 10) (by rfl) w1.heap.size [.bool l, .slice ta t.length tc, .slice (some ⟨kb, ko, none⟩) 8 kc] (by rfl) (by rfl) aggItem (Blk.new w1 156 [.bool false, .slice none 0 0, .slice none 0 0]) (by rfl) (by rfl) (by intro u hu; simp at hu; rcases hu with rfl | rfl | rfl <;> rfl) (((Below.refl w1.heap.size w1).alloc (Nat.le_refl _) (.cells #[.bool false, .slice none 0 0, .slice none 0 0] 156))) (Nat.le_refl _) ?_; intro w4 h4 b4 _; have hz4 := hz1.kept b4; have hbel4 := Below.then hbel1 b4; have c42 : w4.cell? ⟨w1.heap.size, 2, none⟩ = some (.slice (some ⟨kb, ko, none⟩) 8 kc) := h4.cell 2))
  have hbn : Below w4.heap.size w4 (w4.alloc (.cells (txcs zX (.slice none 0 0)).toArray 77)) := (Below.refl _ _).alloc (Nat.le_refl _) _
  have G0 : RyW w w1 w1.heap.size w4.heap.size [.bool l, .slice ta t.length tc, .slice (some ⟨kb, ko, none⟩) 8 kc] (txcs zX (.slice none 0 0)) (w4.alloc (.cells (txcs zX (.slice none 0 0)).toArray 77)) :=
    ⟨Below.then hbel4 hbn, Below.then b4 hbn, hz4.kept hbn, h4.kept hbn, Blk.new w4 _ _, hs1, Nat.le_refl _, h4.lt⟩
  obtain ⟨gh, hgh⟩ : ∃ g, g = w4.heap.size := ⟨_, rfl⟩
  obtain ⟨w5, hw5⟩ : ∃ x, x = w4.alloc (.cells (txcs zX (.slice none 0 0)).toArray 77) := ⟨_, rfl⟩
  rw [← hw5] at G0
  rw [← hgh] at G0
  change Code.wp _ _ _ _ (w4.alloc (.cells (txcs zX (.slice none 0 0)).toArray 77))
  rw [← hw5]
  try rw [← hgh]
  clear hz hbel hlt0 b1 hz1 hbel1 hs1 h4 hz4 hbel4 c42 hbn hgh hw5 b4 C
  rw [tx3_zero] at G0
  have s8 := fun off u => sl8 gh off u
  obtain ⟨pa0, pc0, kt0, _⟩ := Hkx.out 0 (by omega)
  obtain ⟨P0, hP0⟩ : ∃ T, T = TS[0]?.getD [] := ⟨_, rfl⟩
  rw [← hP0] at kt0
  have y0 := fun u : Ext w5 => (kt0 u.val (Below.then G0.hk u.property)).1
  simp only [Nat.reduceMul, Nat.add_zero, Nat.zero_add] at y0
  have k2 := fun u : Ext w5 => u.cell ((G0.h4.cell 2).trans (show _ = some (Value.slice (some ⟨kb, ko, none⟩) 8 kc) from rfl))
  have HP0 := Lib.hid hP0
  clear hP0
  refine wp_region_typed w5 7 (by kernel_rfl) (by kernel_rfl) (Below.refl _ _) ?_; simp only [List.take_succ_cons, List.take_zero, List.take_nil]
  iterate 7 (refine wpX_step (by rfl) (fun K hK => ?_); go_simp; first | (refine hK _ ?_; clear hK K) | (apply Exists.intro; refine ⟨fun _ => ?_, hK _ ?_⟩; fail; clear hK K))
  refine wpX_nil ?_
  intro x0 hx0
  change wpList _ _ _ [_] _ _
  have F0 := G0.kept hx0
  have bt0 := (kt0 x0 F0.hk).2
  clear y0 kt0 G0 hx0 k2
  try simp only [Act.put, List.setIfInBounds_toArray, List.set_cons_zero, List.set_cons_succ]
  go_upto_region 6 with (refine wpList_copyMin (o := ⟨some 28, _, _, _, _, _⟩) (by rfl) (.tmp 22) (.tmp 27) 22 22 (by rfl) elU8 gh 0 8 8 (by rfl) (.slice pa0 P0.length pc0) P0 (by rfl) bt0 (tx3 (zeroB 8) (zeroB 8) [.bool false, .int .u64 0, .int .u64 0, .int .u64 0, .int .u64 0, .int .u64 0, .int .u64 0, .int .u64 0, .slice none 0 0]) F0.hh (by rw [tx3_len (zeroB_len 8) (zeroB_len 8)]; simp) ?_; intro v0 hh0 b0; have G1 := F0.put b0 hh0; rw [tx3_frm] at G1; clear F0 bt0 hh0 b0)
  obtain ⟨pa1, pc1, kt1, _⟩ := Hkx.out 1 (by omega)
  obtain ⟨P1, hP1⟩ : ∃ T, T = TS[1]?.getD [] := ⟨_, rfl⟩
  rw [← hP1] at kt1
  have y1 := fun u : Ext v0 => (kt1 u.val (Below.then G1.hk u.property)).1
  simp only [Nat.reduceMul, Nat.add_zero, Nat.zero_add] at y1
  have k2 := fun u : Ext v0 => u.cell ((G1.h4.cell 2).trans (show _ = some (Value.slice (some ⟨kb, ko, none⟩) 8 kc) from rfl))
  have HP1 := Lib.hid hP1
  clear hP1
  refine wp_region_typed v0 7 (by kernel_rfl) (by kernel_rfl) (Below.refl _ _) ?_; simp only [List.take_succ_cons, List.take_zero, List.take_nil]
  iterate 7 (refine wpX_step (by rfl) (fun K hK => ?_); go_simp; first | (refine hK _ ?_; clear hK K) | (apply Exists.intro; refine ⟨fun _ => ?_, hK _ ?_⟩; fail; clear hK K))
  refine wpX_nil ?_
  intro x1 hx1
  change wpList _ _ _ [_] _ _
  have F1 := G1.kept hx1
  have bt1 := (kt1 x1 F1.hk).2
  clear y1 kt1 G1 hx1 k2
  try simp only [Act.put, List.setIfInBounds_toArray, List.set_cons_zero, List.set_cons_succ]
  go_upto_region 7 with (refine wpList_copyMin (o := ⟨some 36, _, _, _, _, _⟩) (by rfl) (.tmp 30) (.tmp 35) 22 22 (by rfl) elU8 gh 8 8 8 (by rfl) (.slice pa1 P1.length pc1) P1 (by rfl) bt1 (tx3 (cpy 8 P0) (zeroB 8) [.bool false, .int .u64 0, .int .u64 0, .int .u64 0, .int .u64 0, .int .u64 0, .int .u64 0, .int .u64 0, .slice none 0 0]) F1.hh (by rw [tx3_len (cpy_len 8 P0) (zeroB_len 8)]; simp) ?_; intro v1 hh1 b1; have G2 := F1.put b1 hh1; rw [tx3_to (cpy_len 8 P0)] at G2; clear F1 bt1 hh1 b1)
  obtain ⟨pa2, pc2, kt2, _⟩ := Hkx.out 2 (by omega)
  obtain ⟨P2, hP2⟩ : ∃ T, T = TS[2]?.getD [] := ⟨_, rfl⟩
  rw [← hP2] at kt2
  obtain ⟨n2, hn2⟩ : ∃ n, n = P2.length := ⟨_, rfl⟩
  rw [← hn2] at kt2
  have d2 : v1.cell? ⟨w1.heap.size, 2, none⟩ = some (.slice (some ⟨kb, ko, none⟩) 8 kc) := G2.h4.cell 2
  have d3 : v1.cell? ⟨kb, ko + 6 + 1, none⟩ = some (.slice pa2 n2 pc2) := (kt2 v1 G2.hk).1
  have hc6 := G2.hh.has 16 (by rw [tx3_len (cpy_len 8 P0) (cpy_len 8 P1)]; simp)
  have hf6 := G2.hh.free 16
  obtain ⟨y6, hy6⟩ := hc6
  have G3 := G2.set 16 (.bool (decide (0 < n2)))
  rw [show (16 : Nat) = 16 + 0 from rfl, tx3_set (cpy_len 8 P0) (cpy_len 8 P1)] at G3
  simp only [Nat.add_zero, List.set_cons_zero] at G3
  have HP2 := Lib.hid hP2
  have Hn2 := Lib.hid hn2
  clear hP2 hn2 kt2 G2
  go_upto_region 8 with fail
  obtain ⟨v2, hv2⟩ : ∃ x, x = v1.setCell ⟨gh, 16, none⟩ (.bool (decide (0 < n2))) := ⟨_, rfl⟩
  rw [← hv2] at G3
  try rw [← hv2]
  have h1g : w1.heap.size ≤ gh := Nat.le_trans G3.h1 (Nat.le_of_lt G3.h2)
  have h4g : w1.heap.size < gh := Nat.lt_of_le_of_lt G3.h1 G3.h2
  have hgl : gh < v2.heap.size := G3.hh.lt
  obtain ⟨B2, hB2⟩ : ∃ B, B = decide (0 < n2) := ⟨_, rfl⟩
  rw [← hB2] at G3
  have HB2 := Lib.hid hB2
  clear hv2 hy6 hf6 d2 d3 hB2
  have k2 : ∀ u : In (BeX gh v2), u.val.cell? ⟨w1.heap.size, 2, none⟩ = some (.slice (some ⟨kb, ko, none⟩) 8 kc) := fun u => (G3.h4.below u.held G3.h2).cell 2
  obtain ⟨pa3, pc3, kt3, _⟩ := Hkx.out 3 (by omega)
  obtain ⟨P3, hP3⟩ : ∃ T, T = TS[3]?.getD [] := ⟨_, rfl⟩
  rw [← hP3] at kt3
  obtain ⟨n3, hn3⟩ : ∃ n, n = P3.length := ⟨_, rfl⟩
  rw [← hn3] at kt3
  obtain ⟨V3, hV3⟩ : ∃ N, N = numL (last32 P3) := ⟨_, rfl⟩
  have q3 : ∀ u : In (BeX gh v2), u.val.cell? ⟨kb, ko + 9 + 1, none⟩ = some (.slice pa3 n3 pc3) := fun u => (kt3 u.val (Below.trans G3.hk (Below.mono u.held h1g))).1
  have R3 : Hid (∀ u, Below gh v2 u → Calls Try.prog 87 #[.slice pa3 n3 pc3] u fun e w' => e = .returned (.agg (wcs V3).toArray) ∧ Below u.heap.size u w') := Lib.hid (fun u hu => by rw [hV3]; have hb := (kt3 u (Below.trans G3.hk (Below.mono hu h1g))).2; rw [hn3] at hb ⊢; exact wread_any pa3 pc3 P3 u hb)
  have n3' : nfR P3 = lim V3 0 := by rw [hV3]; rfl
  rw [hP3] at n3'
  have Nf3 := Lib.hid n3'
  have x3' := fun u => idx0w V3 u
  clear kt3 hV3 n3' hP3 hn3
  obtain ⟨pa4, pc4, kt4, _⟩ := Hkx.out 4 (by omega)
  obtain ⟨P4, hP4⟩ : ∃ T, T = TS[4]?.getD [] := ⟨_, rfl⟩
  rw [← hP4] at kt4
  obtain ⟨n4, hn4⟩ : ∃ n, n = P4.length := ⟨_, rfl⟩
  rw [← hn4] at kt4
  obtain ⟨V4, hV4⟩ : ∃ N, N = numL (last32 P4) := ⟨_, rfl⟩
  have q4 : ∀ u : In (BeX gh v2), u.val.cell? ⟨kb, ko + 12 + 1, none⟩ = some (.slice pa4 n4 pc4) := fun u => (kt4 u.val (Below.trans G3.hk (Below.mono u.held h1g))).1
  have R4 : Hid (∀ u, Below gh v2 u → Calls Try.prog 87 #[.slice pa4 n4 pc4] u fun e w' => e = .returned (.agg (wcs V4).toArray) ∧ Below u.heap.size u w') := Lib.hid (fun u hu => by rw [hV4]; have hb := (kt4 u (Below.trans G3.hk (Below.mono hu h1g))).2; rw [hn4] at hb ⊢; exact wread_any pa4 pc4 P4 u hb)
  have n4' : nfR P4 = lim V4 0 := by rw [hV4]; rfl
  rw [hP4] at n4'
  have Nf4 := Lib.hid n4'
  have x4' := fun u => idx0w V4 u
  clear kt4 hV4 n4' hP4 hn4
  obtain ⟨pa5, pc5, kt5, _⟩ := Hkx.out 5 (by omega)
  obtain ⟨P5, hP5⟩ : ∃ T, T = TS[5]?.getD [] := ⟨_, rfl⟩
  rw [← hP5] at kt5
  obtain ⟨n5, hn5⟩ : ∃ n, n = P5.length := ⟨_, rfl⟩
  rw [← hn5] at kt5
  obtain ⟨V5, hV5⟩ : ∃ N, N = numL (last32 P5) := ⟨_, rfl⟩
  have q5 : ∀ u : In (BeX gh v2), u.val.cell? ⟨kb, ko + 15 + 1, none⟩ = some (.slice pa5 n5 pc5) := fun u => (kt5 u.val (Below.trans G3.hk (Below.mono u.held h1g))).1
  have R5 : Hid (∀ u, Below gh v2 u → Calls Try.prog 87 #[.slice pa5 n5 pc5] u fun e w' => e = .returned (.agg (wcs V5).toArray) ∧ Below u.heap.size u w') := Lib.hid (fun u hu => by rw [hV5]; have hb := (kt5 u (Below.trans G3.hk (Below.mono hu h1g))).2; rw [hn5] at hb ⊢; exact wread_any pa5 pc5 P5 u hb)
  have n5' : nfR P5 = lim V5 0 := by rw [hV5]; rfl
  rw [hP5] at n5'
  have Nf5 := Lib.hid n5'
  have x5' := fun u => idx0w V5 u
  clear kt5 hV5 n5' hP5 hn5
  refine wp_region_h (BeX gh v2) (by kernel_rfl) ?_; intro u0 hu0; simp only [List.length_cons, List.length_nil, Nat.reduceAdd, List.replicate_succ, List.replicate_zero]
  have hS0 : BeX gh v2 u0 := (by rw [hu0]; exact (Below.refl _ _).drew)
  have G4 : RyW w w1 w1.heap.size gh [.bool l, .slice ta t.length tc, .slice (some ⟨kb, ko, none⟩) 8 kc] (tx3 (cpy 8 P0) (cpy 8 P1) [.bool B2, .int .u64 0, .int .u64 0, .int .u64 0, .int .u64 0, .int .u64 0, .int .u64 0, .int .u64 0, .slice none 0 0]) u0 := by rw [hu0]; exact G3.kept ((Below.refl _ _).drew)
  clear hu0
  (refine wpH_take 0 (by rfl) (by kernel_rfl) (by intro _ _ _ h; first | exact h | (cases h.1)) (by intro _ _ _ _ h; first | exact h | (cases h.1)) (by assumption) (fun K hK => ?_); simp only [List.setIfInBounds_toArray, List.set_cons_zero, List.set_cons_succ] at hK; go_simp; first | (refine hK _ ?_; clear hK K) | (apply Exists.intro; refine ⟨fun _ => rfl, hK _ ?_⟩; clear hK K)); (refine wpH_take 1 (by rfl) (by kernel_rfl) (by intro _ _ _ h; first | exact h | (cases h.1)) (by intro _ _ _ _ h; first | exact h | (cases h.1)) (by assumption) (fun K hK => ?_); simp only [List.setIfInBounds_toArray, List.set_cons_zero, List.set_cons_succ] at hK; go_simp; first | (refine hK _ ?_; clear hK K) | (apply Exists.intro; refine ⟨fun _ => rfl, hK _ ?_⟩; clear hK K)); (refine wpH_take 2 (by rfl) (by kernel_rfl) (by intro _ _ _ h; first | exact h | (cases h.1)) (by intro _ _ _ _ h; first | exact h | (cases h.1)) (by assumption) (fun K hK => ?_); simp only [List.setIfInBounds_toArray, List.set_cons_zero, List.set_cons_succ] at hK; go_simp; first | (refine hK _ ?_; clear hK K) | (apply Exists.intro; refine ⟨fun _ => rfl, hK _ ?_⟩; clear hK K)); (refine wpH_take 3 (by rfl) (by kernel_rfl) (by intro _ _ _ h; first | exact h | (cases h.1)) (by intro _ _ _ _ h; first | exact h | (cases h.1)) (by assumption) (fun K hK => ?_); simp only [List.setIfInBounds_toArray, List.set_cons_zero, List.set_cons_succ] at hK; go_simp; first | (refine hK _ ?_; clear hK K) | (apply Exists.intro; refine ⟨fun _ => rfl, hK _ ?_⟩; clear hK K)); (refine wpH_take 4 (by rfl) (by kernel_rfl) (by intro _ _ _ h; first | exact h | (cases h.1)) (by intro _ _ _ _ h; first | exact h | (cases h.1)) (by assumption) (fun K hK => ?_); simp only [List.setIfInBounds_toArray, List.set_cons_zero, List.set_cons_succ] at hK; go_simp; first | (refine hK _ ?_; clear hK K) | (apply Exists.intro; refine ⟨fun _ => rfl, hK _ ?_⟩; clear hK K)); (refine wpH_take 7 (by rfl) (by kernel_rfl) (by intro _ _ _ h; first | exact h | (cases h.1)) (by intro _ _ _ _ h; first | exact h | (cases h.1)) (by assumption) (fun K hK => ?_); simp only [List.setIfInBounds_toArray, List.set_cons_zero, List.set_cons_succ] at hK; go_simp; first | (refine hK _ ?_; clear hK K) | (apply Exists.intro; refine ⟨fun _ => rfl, hK _ ?_⟩; clear hK K)); (refine wpH_take 8 (by rfl) (by kernel_rfl) (by intro _ _ _ h; first | exact h | (cases h.1)) (by intro _ _ _ _ h; first | exact h | (cases h.1)) (by assumption) (fun K hK => ?_); simp only [List.setIfInBounds_toArray, List.set_cons_zero, List.set_cons_succ] at hK; go_simp; first | (refine hK _ ?_; clear hK K) | (apply Exists.intro; refine ⟨fun _ => rfl, hK _ ?_⟩; clear hK K)); (refine wpH_take 9 (by rfl) (by kernel_rfl) (by intro _ _ _ h; first | exact h | (cases h.1)) (by intro _ _ _ _ h; first | exact h | (cases h.1)) (by assumption) (fun K hK => ?_); simp only [List.setIfInBounds_toArray, List.set_cons_zero, List.set_cons_succ] at hK; go_simp; first | (refine hK _ ?_; clear hK K) | (apply Exists.intro; refine ⟨fun _ => rfl, hK _ ?_⟩; clear hK K)); (refine wpH_take 10 (by rfl) (by kernel_rfl) (by intro _ _ _ h; first | exact h | (cases h.1)) (by intro _ _ _ _ h; first | exact h | (cases h.1)) (by assumption) (fun K hK => ?_); simp only [List.setIfInBounds_toArray, List.set_cons_zero, List.set_cons_succ] at hK; go_simp; first | (refine hK _ ?_; clear hK K) | (apply Exists.intro; refine ⟨fun _ => rfl, hK _ ?_⟩; clear hK K)); (refine wpH_take 11 (by rfl) (by kernel_rfl) (by intro _ _ _ h; first | exact h | (cases h.1)) (by intro _ _ _ _ h; first | exact h | (cases h.1)) (by assumption) (fun K hK => ?_); simp only [List.setIfInBounds_toArray, List.set_cons_zero, List.set_cons_succ] at hK; go_simp; first | (refine hK _ ?_; clear hK K) | (apply Exists.intro; refine ⟨fun _ => rfl, hK _ ?_⟩; clear hK K)); (refine wpH_take 14 (by rfl) (by kernel_rfl) (by intro _ _ _ h; first | exact h | (cases h.1)) (by intro _ _ _ _ h; first | exact h | (cases h.1)) (by assumption) (fun K hK => ?_); simp only [List.setIfInBounds_toArray, List.set_cons_zero, List.set_cons_succ] at hK; go_simp; first | (refine hK _ ?_; clear hK K) | (apply Exists.intro; refine ⟨fun _ => rfl, hK _ ?_⟩; clear hK K)); (refine wpH_take 15 (by rfl) (by kernel_rfl) (by intro _ _ _ h; first | exact h | (cases h.1)) (by intro _ _ _ _ h; first | exact h | (cases h.1)) (by assumption) (fun K hK => ?_); simp only [List.setIfInBounds_toArray, List.set_cons_zero, List.set_cons_succ] at hK; go_simp; first | (refine hK _ ?_; clear hK K) | (apply Exists.intro; refine ⟨fun _ => rfl, hK _ ?_⟩; clear hK K)); (refine wpH_take 16 (by rfl) (by kernel_rfl) (by intro _ _ _ h; first | exact h | (cases h.1)) (by intro _ _ _ _ h; first | exact h | (cases h.1)) (by assumption) (fun K hK => ?_); simp only [List.setIfInBounds_toArray, List.set_cons_zero, List.set_cons_succ] at hK; go_simp; first | (refine hK _ ?_; clear hK K) | (apply Exists.intro; refine ⟨fun _ => rfl, hK _ ?_⟩; clear hK K)); (refine wpH_take 17 (by rfl) (by kernel_rfl) (by intro _ _ _ h; first | exact h | (cases h.1)) (by intro _ _ _ _ h; first | exact h | (cases h.1)) (by assumption) (fun K hK => ?_); simp only [List.setIfInBounds_toArray, List.set_cons_zero, List.set_cons_succ] at hK; go_simp; first | (refine hK _ ?_; clear hK K) | (apply Exists.intro; refine ⟨fun _ => rfl, hK _ ?_⟩; clear hK K)); (refine wpH_take 18 (by rfl) (by kernel_rfl) (by intro _ _ _ h; first | exact h | (cases h.1)) (by intro _ _ _ _ h; first | exact h | (cases h.1)) (by assumption) (fun K hK => ?_); simp only [List.setIfInBounds_toArray, List.set_cons_zero, List.set_cons_succ] at hK; go_simp; first | (refine hK _ ?_; clear hK K) | (apply Exists.intro; refine ⟨fun _ => rfl, hK _ ?_⟩; clear hK K))
  (refine wpH_only 5 (by rfl) (by kernel_rfl) (fun K hK => ?_); simp only [List.setIfInBounds_toArray, List.set_cons_zero, List.set_cons_succ] at hK; go_simp)
  refine (R3.out _ hS0).mono ?_
  rintro e u1 ⟨rfl, b1'⟩
  have hS1 : BeX gh v2 u1 := Below.trans hS0 (Below.mono b1' (Nat.le_trans (Nat.le_of_lt hgl) (Below.size hS0)))
  have G5 := G4.kept b1'
  refine hK _ _ hS1 ?_; clear hK K
  try simp only [Act.put, List.getElem_toArray, List.getElem_cons_zero, List.getElem_cons_succ, List.setIfInBounds_toArray, List.set_cons_zero, List.set_cons_succ]
  clear G4 R3 b1'
  (refine wpH_take 6 (by rfl) (by kernel_rfl) (by intro _ _ _ h; first | exact h | (cases h.1)) (by intro _ _ _ _ h; first | exact h | (cases h.1)) (by assumption) (fun K hK => ?_); simp only [List.setIfInBounds_toArray, List.set_cons_zero, List.set_cons_succ] at hK; go_simp; first | (refine hK _ ?_; clear hK K) | (apply Exists.intro; refine ⟨fun _ => rfl, hK _ ?_⟩; clear hK K))
  (refine wpH_only 12 (by rfl) (by kernel_rfl) (fun K hK => ?_); simp only [List.setIfInBounds_toArray, List.set_cons_zero, List.set_cons_succ] at hK; go_simp)
  refine (R4.out _ hS1).mono ?_
  rintro e u2 ⟨rfl, b2'⟩
  have hS2 : BeX gh v2 u2 := Below.trans hS1 (Below.mono b2' (Nat.le_trans (Nat.le_of_lt hgl) (Below.size hS1)))
  have G6 := G5.kept b2'
  refine hK _ _ hS2 ?_; clear hK K
  try simp only [Act.put, List.getElem_toArray, List.getElem_cons_zero, List.getElem_cons_succ, List.setIfInBounds_toArray, List.set_cons_zero, List.set_cons_succ]
  clear G5 R4 b2'
  (refine wpH_take 13 (by rfl) (by kernel_rfl) (by intro _ _ _ h; first | exact h | (cases h.1)) (by intro _ _ _ _ h; first | exact h | (cases h.1)) (by assumption) (fun K hK => ?_); simp only [List.setIfInBounds_toArray, List.set_cons_zero, List.set_cons_succ] at hK; go_simp; first | (refine hK _ ?_; clear hK K) | (apply Exists.intro; refine ⟨fun _ => rfl, hK _ ?_⟩; clear hK K))
  (refine wpH_only 19 (by rfl) (by kernel_rfl) (fun K hK => ?_); simp only [List.setIfInBounds_toArray, List.set_cons_zero, List.set_cons_succ] at hK; go_simp)
  refine (R5.out _ hS2).mono ?_
  rintro e u3 ⟨rfl, b3'⟩
  have hS3 : BeX gh v2 u3 := Below.trans hS2 (Below.mono b3' (Nat.le_trans (Nat.le_of_lt hgl) (Below.size hS2)))
  have G7 := G6.kept b3'
  refine hK _ _ hS3 ?_; clear hK K
  try simp only [Act.put, List.getElem_toArray, List.getElem_cons_zero, List.getElem_cons_succ, List.setIfInBounds_toArray, List.set_cons_zero, List.set_cons_succ]
  clear G6 R5 b3'
  (refine wpH_take 20 (by rfl) (by kernel_rfl) (by intro _ _ _ h; first | exact h | (cases h.1)) (by intro _ _ _ _ h; first | exact h | (cases h.1)) (by assumption) (fun K hK => ?_); simp only [List.setIfInBounds_toArray, List.set_cons_zero, List.set_cons_succ] at hK; go_simp; first | (refine hK _ ?_; clear hK K) | (apply Exists.intro; refine ⟨fun _ => rfl, hK _ ?_⟩; clear hK K)); (refine wpH_take 21 (by rfl) (by kernel_rfl) (by intro _ _ _ h; first | exact h | (cases h.1)) (by intro _ _ _ _ h; first | exact h | (cases h.1)) (by assumption) (fun K hK => ?_); simp only [List.setIfInBounds_toArray, List.set_cons_zero, List.set_cons_succ] at hK; go_simp; first | (refine hK _ ?_; clear hK K) | (apply Exists.intro; refine ⟨fun _ => rfl, hK _ ?_⟩; clear hK K))
  have hc17 := G7.hh.has 17 (by rw [tx3_len (cpy_len 8 P0) (cpy_len 8 P1)]; simp)
  have hf17 := G7.hh.free 17
  obtain ⟨y17, hy17⟩ := hc17
  have G8 := G7.set 17 (.int .u64 (lim V3 0 : Int))
  rw [show (17 : Nat) = 16 + 1 from rfl, tx3_set (cpy_len 8 P0) (cpy_len 8 P1)] at G8
  simp only [Nat.reduceAdd, List.set_cons_zero, List.set_cons_succ] at G8
  (refine wpH_only 22 (by rfl) (by kernel_rfl) (fun K hK => ?_); simp only [List.setIfInBounds_toArray, List.set_cons_zero, List.set_cons_succ] at hK; go_simp)
  have hS4 : BeX gh v2 (u3.setCell ⟨gh, 17, none⟩ (.int .u64 (lim V3 0 : Int))) := Below.setCell hS3 (Nat.le_refl _) _
  refine hK _ _ hS4 ?_; clear hK K
  obtain ⟨u4, hu4⟩ : ∃ x, x = u3.setCell ⟨gh, 17, none⟩ (.int .u64 (lim V3 0 : Int)) := ⟨_, rfl⟩
  rw [← hu4] at G8 hS4
  try rw [← hu4]
  clear hu4 G7 hy17 hf17
  (refine wpH_take 23 (by rfl) (by kernel_rfl) (by intro _ _ _ h; first | exact h | (cases h.1)) (by intro _ _ _ _ h; first | exact h | (cases h.1)) (by assumption) (fun K hK => ?_); simp only [List.setIfInBounds_toArray, List.set_cons_zero, List.set_cons_succ] at hK; go_simp; first | (refine hK _ ?_; clear hK K) | (apply Exists.intro; refine ⟨fun _ => rfl, hK _ ?_⟩; clear hK K))
  have hc18 := G8.hh.has 18 (by rw [tx3_len (cpy_len 8 P0) (cpy_len 8 P1)]; simp)
  have hf18 := G8.hh.free 18
  obtain ⟨y18, hy18⟩ := hc18
  have G9 := G8.set 18 (.int .u64 (lim V4 0 : Int))
  rw [show (18 : Nat) = 16 + 2 from rfl, tx3_set (cpy_len 8 P0) (cpy_len 8 P1)] at G9
  simp only [Nat.reduceAdd, List.set_cons_zero, List.set_cons_succ] at G9
  (refine wpH_only 24 (by rfl) (by kernel_rfl) (fun K hK => ?_); simp only [List.setIfInBounds_toArray, List.set_cons_zero, List.set_cons_succ] at hK; go_simp)
  have hS5 : BeX gh v2 (u4.setCell ⟨gh, 18, none⟩ (.int .u64 (lim V4 0 : Int))) := Below.setCell hS4 (Nat.le_refl _) _
  refine hK _ _ hS5 ?_; clear hK K
  obtain ⟨u5, hu5⟩ : ∃ x, x = u4.setCell ⟨gh, 18, none⟩ (.int .u64 (lim V4 0 : Int)) := ⟨_, rfl⟩
  rw [← hu5] at G9 hS5
  try rw [← hu5]
  clear hu5 G8 hy18 hf18
  (refine wpH_take 25 (by rfl) (by kernel_rfl) (by intro _ _ _ h; first | exact h | (cases h.1)) (by intro _ _ _ _ h; first | exact h | (cases h.1)) (by assumption) (fun K hK => ?_); simp only [List.setIfInBounds_toArray, List.set_cons_zero, List.set_cons_succ] at hK; go_simp; first | (refine hK _ ?_; clear hK K) | (apply Exists.intro; refine ⟨fun _ => rfl, hK _ ?_⟩; clear hK K))
  have hc19 := G9.hh.has 19 (by rw [tx3_len (cpy_len 8 P0) (cpy_len 8 P1)]; simp)
  have hf19 := G9.hh.free 19
  obtain ⟨y19, hy19⟩ := hc19
  have G10 := G9.set 19 (.int .u64 (lim V5 0 : Int))
  rw [show (19 : Nat) = 16 + 3 from rfl, tx3_set (cpy_len 8 P0) (cpy_len 8 P1)] at G10
  simp only [Nat.reduceAdd, List.set_cons_zero, List.set_cons_succ] at G10
  (refine wpH_only 26 (by rfl) (by kernel_rfl) (fun K hK => ?_); simp only [List.setIfInBounds_toArray, List.set_cons_zero, List.set_cons_succ] at hK; go_simp)
  have hS6 : BeX gh v2 (u5.setCell ⟨gh, 19, none⟩ (.int .u64 (lim V5 0 : Int))) := Below.setCell hS5 (Nat.le_refl _) _
  refine hK _ _ hS6 ?_; clear hK K
  obtain ⟨u6, hu6⟩ : ∃ x, x = u5.setCell ⟨gh, 19, none⟩ (.int .u64 (lim V5 0 : Int)) := ⟨_, rfl⟩
  rw [← hu6] at G10 hS6
  try rw [← hu6]
  clear hu6 G9 hy19 hf19
  refine wpH_done (by kernel_rfl) ?_
  go_upto_region 9 with fail
  clear k2 q3 q4 q5 hS6 x3' x4' x5'
  obtain ⟨pa6, pc6, kt6, _⟩ := Hkx.out 6 (by omega)
  obtain ⟨P6, hP6⟩ : ∃ T, T = TS[6]?.getD [] := ⟨_, rfl⟩
  rw [← hP6] at kt6
  obtain ⟨n6, hn6⟩ : ∃ n, n = P6.length := ⟨_, rfl⟩
  rw [← hn6] at kt6
  obtain ⟨pa7, pc7, kt7, kf7⟩ := Hkx.out 7 (by omega)
  obtain ⟨P7, hP7⟩ : ∃ T, T = TS[7]?.getD [] := ⟨_, rfl⟩
  rw [← hP7] at kt7 kf7
  obtain ⟨n7, hn7⟩ : ∃ n, n = P7.length := ⟨_, rfl⟩
  rw [← hn7] at kt7 kf7
  obtain ⟨V6, hV6⟩ : ∃ N, N = numL (last32 P6) := ⟨_, rfl⟩
  have q6 : ∀ u : Ext u6, u.val.cell? ⟨kb, ko + 18 + 1, none⟩ = some (.slice pa6 n6 pc6) := fun u => (kt6 u.val (Below.then G10.hk u.property)).1
  have q7 : ∀ u : Ext u6, u.val.cell? ⟨kb, ko + 21 + 1, none⟩ = some (.slice pa7 n7 pc7) := fun u => (kt7 u.val (Below.then G10.hk u.property)).1
  have R6 : Hid (∀ u, Below u6.heap.size u6 u → Calls Try.prog 87 #[.slice pa6 n6 pc6] u fun e w' => e = .returned (.agg (wcs V6).toArray) ∧ Below u.heap.size u w') := Lib.hid (fun u hu => by rw [hV6]; have hb := (kt6 u (Below.then G10.hk hu)).2; rw [hn6] at hb ⊢; exact wread_any pa6 pc6 P6 u hb)
  have k2 := fun u : Ext u6 => u.cell ((G10.h4.cell 2).trans (show _ = some (Value.slice (some ⟨kb, ko, none⟩) 8 kc) from rfl))
  have HV6 := Lib.hid hV6
  have HP6 := Lib.hid hP6
  have HP7 := Lib.hid hP7
  have Hn7 := Lib.hid hn7
  have H7t := Lib.hid kt7
  have H7f := Lib.hid kf7
  clear hV6 hP6 hP7 hn6 hn7 kt6 kt7 kf7
  refine wp_region_typed u6 12 (by kernel_rfl) (by kernel_rfl) (Below.refl _ _) ?_; simp only [List.take_succ_cons, List.take_zero, List.take_nil]
  iterate 5 (refine wpX_step (by rfl) (fun K hK => ?_); go_simp; first | (refine hK _ ?_; clear hK K) | (apply Exists.intro; refine ⟨fun _ => ?_, hK _ ?_⟩; fail; clear hK K))
  (refine wpX_step (by rfl) (fun K hK => ?_); go_simp; first | (refine hK _ ?_; clear hK K) | (apply Exists.intro; refine ⟨fun _ => ?_, hK _ ?_⟩; exact R6.out _ (Subtype.property _); clear hK K))
  iterate 6 (refine wpX_step (by rfl) (fun K hK => ?_); go_simp; first | (refine hK _ ?_; clear hK K) | (apply Exists.intro; refine ⟨fun _ => ?_, hK _ ?_⟩; fail; clear hK K))
  refine wpX_nil ?_
  intro x9 hx9
  change wpList _ _ _ [_, _, _] _ _
  have G11 := G10.kept hx9
  clear q6 q7 R6 k2 G10
  try simp only [Act.put, List.setIfInBounds_toArray, List.set_cons_zero, List.set_cons_succ]
  have hth : x9.there gh 20 (wcs V6).toArray.size := fun j hj => ⟨by obtain ⟨y, hy⟩ := G11.hh.has (20 + j) (by rw [tx3_len (cpy_len 8 P0) (cpy_len 8 P1)]; rw [List.size_toArray, wcs_len] at hj; simp; omega); rw [hy]; rfl, G11.hh.free _⟩
  go_upto_region 10 with ((with_reducible show wpList _ _ _ (⟨none, Op.store _ _ (Operand.tmp 74), _, _, _, _⟩ :: _) _ _); refine wpList_store_mid (op := ⟨none, _, _, _, _, _⟩) (by rfl) 48 (.tmp 80) (.tmp 74) (by rfl) gh 20 (wcs V6).toArray (by rfl) (by rfl) hth (by rw [List.size_toArray, wcs_len]; kernel_rfl) (all_oneCell_toArray (wcs_one V6)) ?_; have G12 := G11.val (cpy_len 8 P0) (cpy_len 8 P1) V6; obtain ⟨w9, hw9⟩ : ∃ x, x = x9.setCells gh 20 (wcs V6) := ⟨_, rfl⟩; rw [← hw9] at G12; rw [show x9.setCells gh 20 (wcs V6).toArray.toList = w9 from hw9.symm]; clear hw9 hth G11; have hc24 := G12.hh.has 24 (by rw [tx3_len (cpy_len 8 P0) (cpy_len 8 P1)]; simp [wcs_len]); have hf24 := G12.hh.free 24; obtain ⟨y24, hy24⟩ := hc24; have G13 := G12.set 24 (.slice pa7 n7 pc7))
  rw [show (24 : Nat) = 16 + 8 from rfl, tx3_set (cpy_len 8 P0) (cpy_len 8 P1)] at G13
  obtain ⟨X, hX⟩ : ∃ X : Txd, X = ⟨cpy 8 P0, cpy 8 P1, B2, lim V3 0, lim V4 0, lim V5 0, V6, P7⟩ := ⟨_, rfl⟩
  have hRd : rdR TS = X := by
    rw [hX, HB2.out, Hn2.out, HP2.out, HP0.out, HP1.out, ← Nf3.out, ← Nf4.out, ← Nf5.out, HV6.out, HP6.out, HP7.out]; rfl
  have hOk : X.Ok := by rw [← hRd]; exact rdR_ok Htl.out
  have hd7 : X.dat = P7 := by rw [hX]
  have G14 : RyW w w1 w1.heap.size gh [.bool l, .slice ta t.length tc, .slice (some ⟨kb, ko, none⟩) 8 kc] (txcs X (.slice pa7 n7 pc7)) (w9.setCell ⟨gh, 24, none⟩ (.slice pa7 n7 pc7)) := by rw [hX]; exact G13
  clear G13 G12 hy24 hf24
  obtain ⟨z0, hz0⟩ : ∃ x, x = w9.setCell ⟨gh, 24, none⟩ (.slice pa7 n7 pc7) := ⟨_, rfl⟩
  rw [← hz0] at G14
  try rw [← hz0]
  clear hz0
  have hlX := txcs_len hOk (.slice pa7 n7 pc7)
  have Wr : Hid (∀ u, Bytes u (.slice pa7 n7 pc7) P7 → Calls Try.prog 39 #[.agg (txcs X (.slice pa7 n7 pc7)).toArray] u fun e w' => ∃ v, e = .returned v ∧ Bytes w' v (wX X) ∧ Below u.heap.size u w') := Lib.hid (fun u hu => rwrite_any X hOk pa7 n7 pc7 u (by rw [hd7]; exact hu))
  have c1 := fun u : Ext z0 => run_str (P := Try.prog) (src := 22) (dst := 9) elU8.ht (by kernel_rfl) (by kernel_rfl) (RowOf.below (f := b8) (size := 1) h (Below.then G14.hb u.bel))
  have Ra := Lib.hid (Blk.all0 G14.hh)
  have HRd := Lib.hid hRd
  have HOk := Lib.hid hOk
  have Hd7 := Lib.hid hd7
  obtain ⟨WB, hWB⟩ : ∃ WB, WB = wX X := ⟨_, rfl⟩
  rw [← hWB] at Wr
  have HWB := Lib.hid hWB
  clear hX hRd hOk hd7 hWB
  obtain ⟨r, hr⟩ : ∃ r, r = (WB == b) := ⟨_, rfl⟩
  have hr2 : (WB != b) = !r := by rw [hr]; rfl
  have Hr := Lib.hid hr
  cases r with
  | true =>
    simp only [Bool.not_true] at hr2
    have hr1 := hr.symm
    clear hr
    refine wp_region_typed z0 6 (by kernel_rfl) (by kernel_rfl) (Below.refl _ _) ?_; simp only [List.take_succ_cons, List.take_zero, List.take_nil]
    (refine wpX_step (by rfl) (fun K hK => ?_); rw [if_pos (by rfl)]; refine ⟨_, fun u => const_loadm _ (.tmp 6) (by rfl) _ _ (by rfl) aggTx hlX (rangeAt.ext Ra.out u), hK _ ?_⟩; clear hK K; simp only [Act.put, List.setIfInBounds_toArray, List.set_cons_zero, List.set_cons_succ])
    refine wpX_rel 83 (BytesT WB) rfl (of_decide_eq_true rfl) (BytesT.mono _) (fun w2 hw2 => ?_) ?_
    · simp only [relOf, List.filter_nil, forallRel]
      refine ⟨rfl, ?_⟩
      go_simp
      refine (Wr.out w2 (H7t.out w2 (Below.then G14.hk hw2)).2).mono ?_
      rintro e w3 ⟨v, rfl, o3, b3⟩
      exact ⟨v, rfl, o3, b3⟩
    refine wpX_eq (str WB) (fun w2 hw2 => ?_) ?_
    · change forallRel w2 [(83, _)] _ _
      intro v83 h83
      simp only [forallRel]
      refine ⟨rfl, ?_⟩
      have c83 := run_str (P := Try.prog) (src := 22) (dst := 9) elU8.ht (by kernel_rfl) (by kernel_rfl) h83
      go_simp
      exact Below.refl _ _
    iterate 3 (refine wpX_step (by rfl) (fun K hK => ?_); go_simp; first | (refine hK _ ?_; clear hK K) | (apply Exists.intro; refine ⟨fun _ => ?_, hK _ ?_⟩; fail; clear hK K))
    refine wpX_nil ?_
    intro z3 hz3 v83 h83
    have F7 := G14.kept hz3
    have hzz := F7.hz
    have hhh := F7.hh
    clear h83 c1 G14
    change forallRel z3 [] _ _
    simp only [forallRel, List.drop_succ_cons, List.drop_zero, List.drop_nil]
    try simp only [Act.put, List.setIfInBounds_toArray, List.set_cons_zero, List.set_cons_succ]
    go_wp2_with (first
      | (refine wpList_loadA (o := ⟨some 89, _, _, _, _, _⟩) (by rfl) 77 (.tmp 6) (by rfl) gh (by rfl) aggTx hhh hlX ?_)
      | ((with_reducible show wpList _ _ _ (⟨none, Op.store _ _ (Operand.tmp 89), _, _, _, _⟩ :: _) _ _); refine wpList_storeA (o := ⟨none, _, _, _, _, _⟩) (by rfl) 77 (.tmp 2) (.tmp 89) (by rfl) w.heap.size (txcs X (.slice pa7 n7 pc7)) (by rfl) (by rfl) aggTx hzz hlX (by rfl) (txcs_one _ _ _ _) F7.hb (Nat.le_refl _) ?_; intro w5' hh5 hbel5 g5))
    have h7b : Bytes w5' (.slice pa7 n7 pc7) P7 := H7f.out w5' (fun x hx hlt => by
      have hx' : w.heap.size + 1 ≤ x := by simpa using hx
      rw [g5.block x (Nat.lt_of_lt_of_le hlt F7.hk.size) (by simp; omega), F7.hk.block x hlt])
    have heq : wX X = b := by rw [← HWB.out]; exact beq_iff_eq.1 Hr.out.symm
    exact bodyPost_ret (v := .tuple #[.agg (txcs X (.slice pa7 n7 pc7)).toArray, .int .i64 0]) (results_blk_tmp rfl _ _ w.heap.size aggTx hh5 hlX rfl rfl) rfl ⟨X, 0, pa7, n7, pc7, rfl, HOk.out, rdx_yes heq, by rw [Hd7.out]; exact h7b, hbel5⟩
  | false =>
    simp only [Bool.not_false] at hr2
    have hr1 := hr.symm
    clear hr
    refine wp_region_typed z0 6 (by kernel_rfl) (by kernel_rfl) (Below.refl _ _) ?_; simp only [List.take_succ_cons, List.take_zero, List.take_nil]
    (refine wpX_step (by rfl) (fun K hK => ?_); rw [if_pos (by rfl)]; refine ⟨_, fun u => const_loadm _ (.tmp 6) (by rfl) _ _ (by rfl) aggTx hlX (rangeAt.ext Ra.out u), hK _ ?_⟩; clear hK K; simp only [Act.put, List.setIfInBounds_toArray, List.set_cons_zero, List.set_cons_succ])
    refine wpX_rel 83 (BytesT WB) rfl (of_decide_eq_true rfl) (BytesT.mono _) (fun w2 hw2 => ?_) ?_
    · simp only [relOf, List.filter_nil, forallRel]
      refine ⟨rfl, ?_⟩
      go_simp
      refine (Wr.out w2 (H7t.out w2 (Below.then G14.hk hw2)).2).mono ?_
      rintro e w3 ⟨v, rfl, o3, b3⟩
      exact ⟨v, rfl, o3, b3⟩
    refine wpX_eq (str WB) (fun w2 hw2 => ?_) ?_
    · change forallRel w2 [(83, _)] _ _
      intro v83 h83
      simp only [forallRel]
      refine ⟨rfl, ?_⟩
      have c83 := run_str (P := Try.prog) (src := 22) (dst := 9) elU8.ht (by kernel_rfl) (by kernel_rfl) h83
      go_simp
      exact Below.refl _ _
    iterate 3 (refine wpX_step (by rfl) (fun K hK => ?_); go_simp; first | (refine hK _ ?_; clear hK K) | (apply Exists.intro; refine ⟨fun _ => ?_, hK _ ?_⟩; fail; clear hK K))
    refine wpX_nil ?_
    intro z3 hz3 v83 h83
    have F7 := G14.kept hz3
    have hzz := F7.hz
    have hhh := F7.hh
    clear h83 c1 G14
    change forallRel z3 [] _ _
    simp only [forallRel, List.drop_succ_cons, List.drop_zero, List.drop_nil]
    try simp only [Act.put, List.setIfInBounds_toArray, List.set_cons_zero, List.set_cons_succ]
    go_wp2_with (first
      | ((with_reducible show wpList _ _ _ (⟨none, Op.store _ _ (Operand.tmp 88), _, _, _, _⟩ :: _) _ _); refine wpList_storeA (o := ⟨none, _, _, _, _, _⟩) (by rfl) 77 (.tmp 2) (.tmp 88) (by rfl) w.heap.size (txcs zX (.slice none 0 0)) (by rfl) (by rfl) aggTx hzz (by rfl) (by rfl) (txcs_one _ _ _ _) F7.hb (Nat.le_refl _) ?_; intro w5' hh5 hbel5 _))
    have hne : wX (rdR (kidT (decP b))) ≠ b := by
      rw [← HTS.out, HRd.out, ← HWB.out]
      intro e
      have := Hr.out
      rw [e, beq_self_eq_true] at this
      cases this
    exact bodyPost_ret (v := .tuple #[.agg (txcs zX (.slice none 0 0)).toArray, .int .i64 1]) (results_blk_tmp rfl _ _ w.heap.size aggTx hh5 (by rfl) rfl rfl) rfl ⟨zX, 1, none, 0, 0, rfl, zX_ok, rdx_not (rd := rdR) (fun g k => rdR_self k) hne, RowOf.nil b8 1 _, hbel5⟩
/-- the reference's RRead, whatever the bytes -/
theorem rread_any (a : Option Addr) (L c : Nat) (b : List UInt8) (hL : b.length = L) (hLs : L ≤ 1048576) (w : World) (h : Bytes w (.slice a L c) b) : Calls Try.prog 37 #[.slice a L c] w (ReadX b w) := by
  by_cases hE : decE b = 0
  · by_cases h8 : kidsN (decP b) = 8
    · exact rread_good a L c b hL hLs hE h8 w h
    · exact rread_bad2 a L c b hL hLs hE h8 w h
  · exact rread_bad1 a L c b hL hLs hE w h
end Go.Proofs.Ytnhbfnegpjkojaa
