/- The reference's CWrite. -/
import Derived.Test.YtffkjjpjfehcnaaCli6
import Derived.Test.YtffkjjpjfehcnaaHdr7
import Derived.Test.YtffkjjpjfehcnaaSeat4
set_option linter.unusedSimpArgs false
set_option linter.unusedVariables false
namespace Go.Proofs.Ytffkjjpjfehcnaa
open Go.RowKit
theorem bulkP_num : ∀ {l : List Nat}, (∀ x ∈ l, x < 18446744073709551616) → bulkPL ((l.map numB).map .txt) ≤ 9 * l.length
  | [], _ => by simp [bulkPL]
  | x :: l, h => by
    have h1 := numB_8 x (h x List.mem_cons_self)
    have h2 := bulkP_num (l := l) (fun y hy => h y (List.mem_cons_of_mem _ hy))
    simp only [List.map_cons, bulkPL, bulkP, List.length_cons]
    omega
theorem bulkP_nP {l : List Nat} (h : ∀ x ∈ l, x < 18446744073709551616) (hl : l.length ≤ 1048576) : bulkP (nP l) ≤ 9437185 := by
  have := bulkP_num h
  unfold nP
  rw [bulkP]; omega
theorem nP_dec {l : List Nat} (h : ∀ x ∈ l, x < 18446744073709551616) (hl : l.length ≤ 1048576) : decP (seatB l) = nP l ∧ decE (seatB l) = 0 := by
  have h1 := seatB_len h hl
  rw [seatB_nP] at h1 ⊢
  have hd := dec_read (p := nP l) (by omega)
  unfold decP decE
  rw [hd]
  exact ⟨rfl, rfl⟩
theorem Blk.neq {e e' : TypeId} {w : World} {g g' : Nat} {cs cs' : List Value} (h : Blk e w g cs) (h' : Blk e' w g' cs') (hne : e ≠ e') : g ≠ g' := by
  intro e2
  subst e2
  have h1 : w.heap[g]? = some (.cells cs.toArray e (0, 0)) := h
  have h2 : w.heap[g]? = some (.cells cs'.toArray e' (0, 0)) := h'
  rw [h1] at h2
  simp only [Option.some.injEq, Obj.cells.injEq] at h2
  exact hne h2.2.1
/-- the list that is made stays another's block -/
theorem LkV.grewB {w : World} {zs : List (TypeId × Nat × List Value)} {B g9 : Nat} {kv : Value} {ks : List Itm} {u u' : World} {e : TypeId} {z : Nat} {cs : List Value} (h : LkV w zs B g9 kv ks u) (hz : Blk e u z cs) (he : e ≠ 128) (hg : u.grownBy u' kv.ownBlock) (kv' : Value) : Blk e (u'.setCell ⟨g9, 2, none⟩ kv') z cs := by
  have h1 := hz.grown hg (h.hO.notB hz (fun e2 => he e2.symm))
  exact h1.other _ (by show g9 ≠ z; exact (h.hm.neq hz (fun e2 => he e2.symm))) _
set_option maxHeartbeats 2000000 in
set_option maxRecDepth 100000 in
theorem ccwrite_any (t : Sto) (k : t.Ok) (vs vn : Value) (w : World) (h1 : RowOf u64c 1 w vs t.s) (h2 : RowOf u64c 1 w vn t.n) : Calls Try.prog 23 #[.agg (hdcs t.hd ++ [vs, vn]).toArray] w fun e w' => ∃ v, e = .returned v ∧ Bytes w' v (wC t) ∧ Below w.heap.size w w' := by
  obtain ⟨sa, sc, rfl, _⟩ := h1.form
  obtain ⟨na, nc, rfl, _⟩ := h2.form
  obtain ⟨sn, hsn⟩ : ∃ sn, sn = t.s.length := ⟨_, rfl⟩
  obtain ⟨nn, hnn⟩ : ∃ nn, nn = t.n.length := ⟨_, rfl⟩
  rw [← hsn] at h1
  rw [← hnn] at h2
  rw [← hsn, ← hnn]
  have hz0 : Blk 38 (w.alloc (.cells (hdcs t.hd ++ [Value.slice sa sn sc, Value.slice na nn nc]).toArray 38)) w.heap.size (hdcs t.hd ++ [Value.slice sa sn sc, Value.slice na nn nc]) := Blk.new w _ _
  have hbel0 : Below w.heap.size w (w.alloc (.cells (hdcs t.hd ++ [Value.slice sa sn sc, Value.slice na nn nc]).toArray 38)) := (Below.refl _ _).alloc (Nat.le_refl _) _
  have hlt0 := hz0.lt
  have hr := hz0.range 0 204
  rw [stc_hd k.hd] at hr
  have hl := hdcs_len k.hd
  have K := Lib.hid k
  have Hsn := Lib.hid hsn
  have Hnn := Lib.hid hnn
  obtain ⟨WB, hWB⟩ : ∃ WB, WB = wH t.hd := ⟨_, rfl⟩
  have wr := fun u => bwrite_any t.hd k.hd u
  rw [← hWB] at wr
  have Wr := Lib.hid wr
  have HWB := Lib.hid hWB
  clear k hsn hnn wr hWB
  go_enter Try.func23, Try.ntmps23
  go_wp2_with (first
    | (refine wpList_loadW (o := ⟨some 9, _, _, _, _, _⟩) 28 (.tmp 8) (by rfl) w.heap.size 0 (by rfl) aggHd hl hr (by rfl) ?_)
    | (go_at_call 17; refine (Wr.out _).mono ?_; rintro e w3 ⟨v3, rfl, o3, b3⟩; obtain ⟨a3, c3, rfl, _⟩ := o3.form; have hz3 := hz0.kept b3; have hbel3 := Below.then hbel0 b3; have hl3 := Nat.lt_of_lt_of_le hlt0 b3.size)
    | (go_at_call 87; refine (ptext_any _ _ _ _).mono ?_; rintro e w1 ⟨rfl, b1⟩; have hz1 := hz3.kept b1; have hbel1 := Below.then hbel3 b1; have hl1 := Nat.le_trans hl3 b1.size; have b31 := b1)
    | (go_at_call 86; refine (plist_any _ _ _ _).mono ?_; rintro e w2 ⟨rfl, b2⟩; have hz2 := (hz1.alloc _).kept b2; have hown := (Blk.own (f := icells) (size := 3) (l := [txt (.slice a3 WB.length c3) WB]) ((Blk.new w1 128 _).kept b2) 1 icells_len rfl (Nat.le_refl _) (by unfold maxLen; omega)); have hbel2 := Below.then (hbel1.alloc (Nat.le_of_lt hl1) _) b2; have hl2 : w1.heap.size < w2.heap.size := Nat.lt_of_lt_of_le (by simp) b2.size; have b32 := b31.trans ((Below.then ((Below.refl w1.heap.size w1).alloc (Nat.le_refl _) _) b2).mono b31.size))
    | ((with_reducible show wpList _ _ _ (⟨none, Op.store _ _ (Operand.tmp 13), _, _, _, _⟩ :: _) _ _); refine wpList_storeA (o := ⟨none, _, _, _, _, _⟩) (by rfl) 128 (.tmp 3) (.tmp 13) (by rfl) w2.heap.size [.bool true, .slice none 0 0, .slice (some ⟨w1.heap.size, 0, none⟩) 1 1] (by rfl) (by rfl) aggItem (Blk.new w2 128 [.bool false, .slice none 0 0, .slice none 0 0]) (by rfl) (by rfl) (by intro u hu; simp at hu; rcases hu with rfl | rfl | rfl <;> rfl) ((Below.refl w2.heap.size w2).alloc (Nat.le_refl _) (.cells #[.bool false, .slice none 0 0, .slice none 0 0] 128)) (Nat.le_refl _) ?_; intro w8 hm8 b8 _; have hz8 := hz2.kept b8; have hbel8 := Below.then hbel2 b8; have hown8 := hown.kept b8; have b38 := b32.trans (b8.mono b32.size); have i1 := (hz8.cell 204).trans (stc_s K.out.hd _ _); have i2 := (hz8.cell 205).trans (stc_n K.out.hd _ _)))
  have b3L := b38.alloc b38.size (.cells #[.slice sa sn sc, .slice na nn nc] 36)
  have z18 : Blk 36 (w8.alloc (.cells #[.slice sa sn sc, .slice na nn nc] 36)) w8.heap.size [.slice sa sn sc, .slice na nn nc] := Blk.new w8 _ [.slice sa sn sc, .slice na nn nc]
  have F8 : LkV w [] w1.heap.size w2.heap.size (.slice (some ⟨w1.heap.size, 0, none⟩) 1 1) [txt (.slice a3 WB.length c3) WB] (w8.alloc (.cells #[.slice sa sn sc, .slice na nn nc] 36)) := by
    have hs3 := b31.size
    have hs8 := hbel8.size
    refine ⟨hbel8.alloc hs8 _, by simp, hm8.alloc _, hown8.alloc _, by simp [Value.ownBlock]; omega, fun x hx => ?_, Nat.le_of_lt hl1, Nat.le_of_lt hl2⟩
    rw [List.mem_singleton] at hx
    subst hx
    intro u' hu
    refine .mk false _ _ _ [] (Bytes.onto o3 (fun b h1 hlt => ?_)) (RowOf.nil icells 3 u') (by simp)
    rw [← b3L.block b hlt]
    exact hu b ⟨by omega, by simp [Value.ownBlock]; omega⟩ (Nat.lt_of_lt_of_le hlt b3L.size)
  obtain ⟨kv0, hkv0⟩ : ∃ x : Value, x = .slice (some ⟨w1.heap.size, 0, none⟩) 1 1 := ⟨_, rfl⟩
  obtain ⟨ks0, hks0⟩ : ∃ x, x = [txt (.slice a3 WB.length c3) WB] := ⟨_, rfl⟩
  rw [← hkv0, ← hks0] at F8
  have He0 : Hid (ks0.map erI = [Pit.txt (wH t.hd), nP t.s, nP t.n].take (0 + 1)) := Lib.hid (by rw [hks0, HWB.out]; simp only [List.map_cons, List.map_nil]; unfold txt; rw [erI_mk]; rfl)
  have Hb0 : Hid (bulkL ks0 ≤ 1002 + 0 * 9437185) := Lib.hid (by
    have hw := wH_len K.out.hd
    have hb := bulk_txt (.slice a3 WB.length c3) WB
    have e : bulkL ks0 = bulkI (txt (.slice a3 WB.length c3) WB) := by rw [hks0]; simp [bulkL]
    rw [e, hb, HWB.out]; omega)
  obtain ⟨B, hB⟩ : ∃ B, B = w1.heap.size := ⟨_, rfl⟩
  obtain ⟨g9, hg9⟩ : ∃ g9, g9 = w2.heap.size := ⟨_, rfl⟩
  obtain ⟨g18, hg18⟩ : ∃ g18, g18 = w8.heap.size := ⟨_, rfl⟩
  rw [← hg9, ← hB] at F8
  rw [← hg18] at z18
  rw [← hg9, ← hg18]
  clear hz0 hbel0 hlt0 hr o3 b3 hz3 hbel3 hl3 b1 hz1 hbel1 hl1 b31 b2 hz2 hown hbel2 hl2 b32 hm8 b8 hz8 hbel8 hown8 b38 i1 i2 b3L hkv0 hks0 hB hg9 hg18 HWB Wr
  try simp only [Act.put]
  go_loopw [20] (fun ix wr => ∃ (k : Nat) (kv : Value) (ks : List Itm), k ≤ 2 ∧ ix = .int .i64 (k : Int) ∧ LkV w [] B g9 kv ks wr ∧ Blk 36 wr g18 [.slice sa sn sc, .slice na nn nc] ∧ Hid (ks.map erI = [Pit.txt (wH t.hd), nP t.s, nP t.n].take (k + 1)) ∧ Hid (bulkL ks ≤ 1002 + k * 9437185)) (fun ix _ => 2 - (intOf ix).toNat)
  case atStart => exact ⟨0, kv0, ks0, by omega, rfl, F8, z18, He0, Hb0⟩
  case round =>
    clear F8 z18 He0 Hb0
    obtain ⟨k, kv, ks, hk, rfl, F, Z, He, Hb⟩ := hrel
    have hpl : ks.length = k + 1 := by
      have h1 := congrArg List.length He.out
      simp only [List.length_map, List.length_take, List.length_cons, List.length_nil] at h1
      omega
    obtain ⟨ka, kc, rfl, _⟩ := F.hO.form' (k + 1) hpl
    have Hpl := Lib.hid hpl
    clear hpl
    by_cases hlt : k < 2
    · have hki : (k : Int) < (2 : Int) := by omega
      obtain ⟨xa, xn, xc, lx, hx1, hx2, hx3, hx4, hx5, hx6⟩ : ∃ xa xn xc, ∃ lx : List Nat, [Value.slice sa sn sc, Value.slice na nn nc][k]? = some (.slice xa xn xc) ∧ RowOf u64c 1 w (.slice xa xn xc) lx ∧ lx.length = xn ∧ xn ≤ 1048576 ∧ (∀ y ∈ lx, y < 18446744073709551616) ∧ [Pit.txt (wH t.hd), nP t.s, nP t.n].take (k + 2) = [Pit.txt (wH t.hd), nP t.s, nP t.n].take (k + 1) ++ [nP lx] := by
        rcases (by omega : k = 0 ∨ k = 1) with rfl | rfl
        · exact ⟨sa, sn, sc, t.s, rfl, h1, Hsn.out.symm, by rw [Hsn.out]; exact K.out.sl, K.out.s, rfl⟩
        · exact ⟨na, nn, nc, t.n, rfl, h2, Hnn.out.symm, by rw [Hnn.out]; exact K.out.nl, K.out.n, rfl⟩
      have hc : wr.cell? ⟨g18, k, none⟩ = some (.slice xa xn xc) := (Z.cell k).trans hx1
      have hrx := hx2.below F.hb
      have vt := fun u hu => vtext_any xa xn xc lx hx3 hx4 hx5 u hu
      have hsl := seatB_len hx5 (by rw [hx3]; exact hx4)
      obtain ⟨hdp, hde⟩ := nP_dec hx5 (by rw [hx3]; exact hx4)
      have pd := fun (a' : Option Addr) (c' : Nat) u hu => pdecode_big a' (seatB lx).length c' (seatB lx) rfl (by omega) u hu
      rw [hdp, hde] at pd
      obtain ⟨SB, hSB⟩ : ∃ SB, SB = seatB lx := ⟨_, rfl⟩
      rw [← hSB] at vt pd
      have Vt := Lib.hid vt
      have Pd := Lib.hid pd
      have Hx6 := Lib.hid hx6
      have hbk := bulkP_nP hx5 (by rw [hx3]; exact hx4)
      have hlg := F.hm.lt
      have ck : wr.cell? ⟨g9, 2, none⟩ = some (.slice ka (k + 1) kc) := F.hm.cell 2
      clear vt pd hx1 hx2 hx3 hx4 hx5 hx6 hsl hdp hde hSB
      go_wp2_with (first
        | (go_at_call 92; (with_reducible refine (Vt.out _ hrx).mono ?_); rintro e w4 ⟨v4, rfl, o4, b4⟩; obtain ⟨a4, c4, rfl, _⟩ := o4.form; have F4 := F.kept b4; have Z4 := Z.kept b4; have hs4 := b4.size)
        | (go_at_call 77; (with_reducible refine (Pd.out a4 c4 _ o4).mono ?_); rintro e w5 ⟨it, rfl, b5, hF5, hbare, he⟩; have F5 := F4.kept b5; have Z5 := Z4.kept b5; obtain ⟨l5, tv5, t5, kv5, ks5⟩ := it; obtain ⟨ta5, tc5, rfl, _, _⟩ := hF5.is.inv.1.form; obtain ⟨ka5, kc5, rfl, _, _⟩ := hF5.is.inv.2.1.form; simp only [icells])
        | ((with_reducible show wpList _ _ _ (⟨none, Op.store _ _ (Operand.tmp 28), _, _, _, _⟩ :: _) _ _); refine wpList_storeA (o := ⟨none, _, _, _, _, _⟩) (by rfl) 128 (.tmp 6) (.tmp 28) (by rfl) w5.heap.size [.bool l5, .slice ta5 t5.length tc5, .slice ka5 ks5.length kc5] (by rfl) (by rfl) aggItem (Blk.new w5 128 [.bool false, .slice none 0 0, .slice none 0 0]) (by rfl) (by rfl) (by intro u hu; simp at hu; rcases hu with rfl | rfl | rfl <;> rfl) (((Below.refl w5.heap.size w5).alloc (Nat.le_refl _) (.cells #[.bool false, .slice none 0 0, .slice none 0 0] 128))) (Nat.le_refl _) ?_; intro w6 h6 b6 _; have F6 := F5.kept b6; have Z6 := Z5.kept b6; have c6 : w6.cell? ⟨g9, 2, none⟩ = some (.slice ka (k + 1) kc) := F6.hm.cell 2)
        | (refine wpList_loadA (o := ⟨some 32, _, _, _, _, _⟩) (by rfl) 128 (.tmp 6) (by rfl) w5.heap.size (by rfl) aggItem h6 (by rfl) ?_)
        | (refine wpList_buildW (o := ⟨some 33, _, _, _, _, _⟩) (by rfl) 126 1 [(0, .tmp 32)] (by rfl) elItem [.mk l5 (.slice ta5 t5.length tc5) t5 (.slice ka5 ks5.length kc5) ks5] [.agg #[.bool l5, .slice ta5 t5.length tc5, .slice ka5 ks5.length kc5]] (by rfl) (by rfl) (by rfl) (by omega) (by omega) ?_; intro w7 _ r7 b7; have F7 := F6.kept b7; have Z7 := Z6.kept b7; have b57 := Below.then b6 b7; have Fp7 := hF5.to (S' := fun x => x ≠ g9 ∧ (Value.slice ka (k + 1) kc).ownBlock ≠ some x) b57.size (fun x hx hl => ⟨b57.block x hl, (by omega), (fun e => (by have := own_ltK F.hO e; omega))⟩))
        | (refine wpList_appB (o := ⟨some 34, _, _, _, _, _⟩) (by rfl) (.tmp 31) (.tmp 33) 126 (by rfl) elItem (by intro u hu; simp [icells] at hu; rcases hu with rfl | rfl | rfl <;> rfl) (by rfl) F7.hO (by rfl) r7 (Nat.le_trans F7.h2 (Nat.le_of_lt F7.hm.lt)) (by rw [Hpl.out]; simp; omega) (by rw [Hpl.out]; unfold maxLen; simp; omega) ?_; intro v8 w8 hO8 gg8 pp8; obtain ⟨a8, c8, rfl, _⟩ := hO8.form' (k + 2) (by rw [List.length_append, Hpl.out]; rfl); have F8 := F7.grew Fp7 gg8 hO8 pp8; have Z8 := F7.grewB Z7 (by decide) gg8 (.slice a8 (k + 2) c8); obtain ⟨y8, hy8⟩ := (F7.hm.grown gg8 F7.hn).has 2 (by simp); have hf8 := (F7.hm.grown gg8 F7.hn).free 2))
      go_roundw
      case rel => exact ⟨k + 1, .slice a8 (k + 2) c8, ks ++ [.mk l5 (.slice ta5 t5.length tc5) t5 (.slice ka5 ks5.length kc5) ks5], by omega, by go_num, F8, Z8, Lib.hid (by rw [List.map_append, He.out, List.map_cons, List.map_nil, he, Hx6.out]), Lib.hid (by have h1 := Hb.out; have h2 := bulk_er hbare; rw [he] at h2; have h3 : ∀ (l : List Itm) (x : Itm), bulkL (l ++ [x]) = bulkL l + bulkI x := (by intro l x; induction l with | nil => simp [bulkL] | cons y l ih => simp only [List.cons_append, bulkL, ih]; omega); rw [h3, h2]; omega)⟩
      case measure => simp [intOf]; omega
    · obtain rfl : k = 2 := by omega
      have hI := F.is
      have hbk := Hb.out
      have hE : encI (lst (.slice ka 3 kc) ks) = wC t := by
        rw [encP_er]
        unfold lst
        rw [erI_mk, if_pos rfl, He.out]; rfl
      have enc := fun u hb => pencode_any 20000000 (lst (.slice ka 3 kc) ks) u (by rw [bulk_lst]; omega) (by omega) (hI.kept hb)
      unfold PEncPost at enc
      rw [hE] at enc
      have enc' : ∀ u, Below wr.heap.size wr u → Calls Try.prog 88 #[.agg #[.bool true, .slice none 0 0, .slice ka 3 kc]] u _ := enc
      have Enc := Lib.hid enc'
      have hfb := F.hb
      clear enc enc' hE hI hbk
      go_wp2_with (first
        | (refine wpList_loadA (o := ⟨some 37, _, _, _, _, _⟩) (by rfl) 128 (.tmp 3) (by rfl) g9 (by rfl) aggItem F.hm (by rfl) ?_)
        | (go_at_call 88; refine (Enc.out _ (Below.refl _ _)).mono ?_; rintro e w3 ⟨v3, rfl, o3, b3⟩; have hbel3 := Below.then hfb b3))
      go_ret
      exact ⟨_, rfl, o3, hbel3⟩
end Go.Proofs.Ytffkjjpjfehcnaa
