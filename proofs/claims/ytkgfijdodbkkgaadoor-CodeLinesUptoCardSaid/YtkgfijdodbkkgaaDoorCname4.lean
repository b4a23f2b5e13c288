/- The reference's LName. -/
import Derived.Test.YtkgfijdodbkkgaaDoorCname3
import Derived.Shelf.Strings.Fields
namespace Go.Proofs
open Go.Shelf
shelf_lay Lays.n157 Nm 157 at Tryd as Tryd.laysFields
theorem Tryd.hi157 : (Tryd.prog.info? (Tryd.laysFields_ren.t 9)).map (fun i => (i.zero, i.size, i.bytes)) = some (some (.string ByteArray.empty), 1, 16) := by kernel_rfl
theorem Tryd.hg157 : Tryd.prog.globalNamed "strings.asciiSpace" = some (Tryd.laysFields_ren.g 0) := by kernel_rfl
end Go.Proofs
set_option linter.unusedSimpArgs false
set_option linter.unusedVariables false
namespace Go.Proofs.YtkgfijdodbkkgaaDoor
open Go.RowKit Go.Shelf
def fcell (l : List UInt8) : List Value := [.string ⟨l.toArray⟩]
theorem flat_f (l : List (List UInt8)) : l.flatMap fcell = l.map fun x => Value.string ⟨x.toArray⟩ := by
  induction l with
  | nil => rfl
  | cons x l ih => rw [List.flatMap_cons, ih]; rfl
theorem words_len : words.length = 58 := by kernel_rfl
theorem words_two : ∀ f ∈ words, 2 ≤ f.length := by
  have : words.all (fun f => decide (2 ≤ f.length)) = true := by kernel_rfl
  exact fun f hf => of_decide_eq_true (List.all_eq_true.1 this f hf)
theorem fields_any (s : ByteArray) (hk : (decide (s.size < 4294967281) && s.data.toList.all (fun b => decide (b.toNat < 128)) && (Lib.fields s.data.toList == words)) = true) (w : World) (ht : Lib.TabIs Tryd.prog w "strings.asciiSpace" .u8 Lib.asciiSpaceTab) :
    Calls Tryd.prog 24 #[.string s] w fun e w' => e = .returned (.slice (some ⟨w.heap.size, 0, none⟩) 58 58) ∧ Below w.heap.size w w' ∧ RowOf fcell 1 w' (.slice (some ⟨w.heap.size, 0, none⟩) 58 58) words := by
  simp only [Bool.and_eq_true, decide_eq_true_eq, beq_iff_eq, List.all_eq_true] at hk
  obtain ⟨⟨h1, h2⟩, h3⟩ := hk
  refine (Any.strings_Fields Tryd.laysFields Tryd.hi157 Tryd.hg157 s w h1 (fun j b hb => h2 b (List.mem_of_getElem? hb)) ht).mono ?_
  rintro e w' ⟨rfl, rfl⟩
  rw [h3, words_len]
  refine ⟨rfl, (Below.refl _ _).alloc (Nat.le_refl _) _, ?_⟩
  have := Row.built (f := fcell) (size := 1) (fun _ => rfl) w (Tryd.laysFields_ren.t 9) words 58 words_len.symm (by unfold maxLen; omega)
  rw [flat_f] at this
  exact this
theorem find_first {α : Type} (p : α → Bool) (l : List α) (i : Nat) (hi : i < l.length) (h : ∀ j (hj : j < l.length), j < i → p l[j] = false) (hp : p l[i] = true) : l.find? p = some l[i] := by
  have h1 : l = l.take i ++ (l[i] :: l.drop (i + 1)) := by rw [List.getElem_cons_drop, List.take_append_drop]
  conv => lhs; rw [h1]
  rw [List.find?_append]
  have h2 : (l.take i).find? p = none := by
    rw [List.find?_eq_none]
    intro r hr
    obtain ⟨j, hj⟩ := List.getElem?_of_mem hr
    obtain ⟨h3, h4⟩ := List.getElem?_eq_some_iff.1 hj
    rw [List.length_take] at h3
    rw [List.getElem_take] at h4
    rw [← h4, h j (by omega) (by omega)]; simp
  rw [h2, List.find?_cons, hp]
  rfl
def SlB (l : List UInt8) : Ty := fun v w => ∃ (a : Option Addr) (c : Nat), v = .slice a l.length c ∧ Bytes w (.slice a l.length c) l
theorem SlB.mono (l : List UInt8) : Mono (SlB l) := fun _ _ _ ⟨a, c, h, h2⟩ hb => ⟨a, c, h, h2.below hb⟩
theorem hx_len (x : Nat) : (printL [UInt8.ofNat x]).length = 4 := rfl
/-- the kinds that are numbered: name, from, first, many -/
def kinds : List (List UInt8 × Nat × Nat × Nat) := [([112, 117, 115, 104], 96, 1, 32), ([100, 117, 112], 128, 1, 16), ([115, 119, 97, 112], 144, 1, 16), ([108, 111, 103], 160, 0, 3)]
def kcell (g : List UInt8 × Nat × Nat × Nat) : List Value := [.string ⟨g.1.toArray⟩, .int .i64 (g.2.1 : Int), .int .i64 (g.2.2.1 : Int), .int .i64 (g.2.2.2 : Int)]
theorem kinds_at (x : Nat) (k : Nat) (hk : k < 4) (g : List UInt8 × Nat × Nat × Nat) (hg : kinds[k]? = some g) (h1 : g.2.1 ≤ x) (h2 : x < g.2.1 + g.2.2.2) : inGrp x = true ∧ grp x = g.1 ++ Lib.decDigits (x - g.2.1 + g.2.2.1) ∧ x - g.2.1 + g.2.2.1 < 100 := by
  unfold inGrp grp
  have : k = 0 ∨ k = 1 ∨ k = 2 ∨ k = 3 := by omega
  rcases this with rfl | rfl | rfl | rfl <;> simp only [kinds, List.getElem?_cons_zero, List.getElem?_cons_succ, Option.some.injEq] at hg <;> subst hg <;> dsimp only at h1 h2 ⊢
  · refine ⟨by simp; omega, ?_, by omega⟩
    rw [if_pos (by omega), show x - 96 + 1 = x - 95 from by omega]
  · refine ⟨by simp; omega, ?_, by omega⟩
    rw [if_neg (by omega), if_pos (by omega), show x - 128 + 1 = x - 127 from by omega]
  · refine ⟨by simp; omega, ?_, by omega⟩
    rw [if_neg (by omega), if_neg (by omega), if_pos (by omega), show x - 144 + 1 = x - 143 from by omega]
  · refine ⟨by simp; omega, ?_, by omega⟩
    rw [if_neg (by omega), if_neg (by omega), if_neg (by omega), Nat.add_zero]
theorem kinds_small : ∀ g ∈ kinds, g.2.1 ≤ 160 ∧ g.2.2.1 ≤ 1 ∧ g.2.2.2 ≤ 32 ∧ g.1.length ≤ 4 := by
  have : kinds.all (fun g => decide (g.2.1 ≤ 160) && decide (g.2.2.1 ≤ 1) && decide (g.2.2.2 ≤ 32) && decide (g.1.length ≤ 4)) = true := by decide
  intro g hg
  have := List.all_eq_true.1 this g hg
  simp only [Bool.and_eq_true, decide_eq_true_eq] at this
  exact ⟨this.1.1.1, this.1.1.2, this.1.2, this.2⟩
theorem aggKind : Agg Tryd.prog 43 4 := ⟨_, Tryd.underlying43, rfl, by kernel_rfl⟩
theorem kinds_none (x : Nat) (h : ∀ (k : Nat) (g : List UInt8 × Nat × Nat × Nat), kinds[k]? = some g → ¬ (g.2.1 ≤ x ∧ x < g.2.1 + g.2.2.2)) : inGrp x = false := by
  have h0 := h 0 _ rfl
  have h1 := h 1 _ rfl
  have h2 := h 2 _ rfl
  have h3 := h 3 _ rfl
  dsimp only at h0 h1 h2 h3
  unfold inGrp
  rw [Bool.and_eq_false_iff, decide_eq_false_iff_not, decide_eq_false_iff_not]
  omega
set_option maxHeartbeats 4000000 in
set_option maxRecDepth 100000 in
theorem lname_any (x : Nat) (hx256 : x < 256) (w : World) (ht : Lib.TabIs Tryd.prog w "strings.asciiSpace" .u8 Lib.asciiSpaceTab) : Calls Tryd.prog 12 #[.int .u8 (x : Int)] w fun e w' => e = .returned (.string ⟨(lnP x).toArray⟩) ∧ Below w.heap.size w w' := by
  obtain ⟨R, hR⟩ : ∃ R : ByteArray, R = ⟨(lnP x).toArray⟩ := ⟨_, rfl⟩
  rw [← hR]
  have HR := Lib.hid hR
  have Ht := Lib.hid ht
  clear hR ht
  go_enter Tryd.func12, Tryd.ntmps12
  go_wp2_with (go_at_call 24; refine (fields_any _ (by kernel_rfl) _ Ht.out).mono ?_; rintro e w1 ⟨rfl, b1, hrow⟩)
  go_loopw [10] (fun ix wr => ∃ i : Nat, i ≤ 58 ∧ ix = .int .i64 (i : Int) ∧ (∀ j (hj : j < words.length), j < i → (hx x == words[j].take 2) = false) ∧ Below w1.heap.size w1 wr) (fun ix _ => 58 - (intOf ix).toNat)
  case atStart => exact ⟨0, by omega, rfl, fun j _ h => by omega, Below.refl _ _⟩
  case round =>
    obtain ⟨i, hii, rfl, hall, hwr⟩ := hrel
    have hbr := Below.then b1 hwr
    by_cases hlt : i < 58
    · have hki : (i : Int) < 58 := by omega
      have hil : i < words.length := by rw [words_len]; exact hlt
      obtain ⟨b, off, hab, hcc⟩ := RowOf.cells (f := fcell) (size := 1) (fun _ => rfl) (hrow.below hwr) i hil
      simp only [Option.some.injEq, Addr.mk.injEq, and_true] at hab
      obtain ⟨rfl, rfl⟩ := hab
      have hc0 := hcc 0 (.string ⟨(words[i]).toArray⟩) rfl
      simp only [Nat.mul_one, Nat.add_zero, Nat.zero_add] at hc0
      have hf2 := words_two _ (List.getElem_mem hil)
      have hfi := fun hp => find_first (fun f => hx x == f.take 2) words i hil hall hp
      have hnx : (hx x == words[i].take 2) = false → ∀ j (hj : j < words.length), j < i + 1 → (hx x == words[j].take 2) = false := by
        intro he j hj hji
        by_cases e : j = i
        · subst e; exact he
        · exact hall j hj (by omega)
      obtain ⟨f, hf⟩ : ∃ f, f = words[i] := ⟨_, rfl⟩
      rw [← hf] at hc0 hf2 hfi hnx
      have s17 := str_from (P := Tryd.prog) (t := 9) (by kernel_rfl) (printL [UInt8.ofNat x]) 2 2 rfl (by rw [hx_len]; omega)
      have s19 := str_to (P := Tryd.prog) (t := 9) (by kernel_rfl) f 2 2 rfl hf2
      have s22 := str_from (P := Tryd.prog) (t := 9) (by kernel_rfl) f 2 2 rfl hf2
      obtain ⟨H, hH⟩ : ∃ H, H = (printL [UInt8.ofNat x]).drop 2 := ⟨_, rfl⟩
      obtain ⟨PL, hPL⟩ : ∃ H, H = printL [UInt8.ofNat x] := ⟨_, rfl⟩
      have hHx : hx x = H := hH.symm
      rw [hHx] at hfi hnx
      rw [← hH, ← hPL] at s17
      obtain ⟨F2, hF2⟩ : ∃ H, H = f.take 2 := ⟨_, rfl⟩
      rw [← hF2] at s19 hnx
      obtain ⟨q, hq⟩ : ∃ q, q = (H == F2) := ⟨_, rfl⟩
      rw [← hq] at hnx
      have hq' := hq.symm
      have hu8 : u8v (UInt8.ofNat x) = .int .u8 (x : Int) := by unfold u8v; rw [UInt8.toNat_ofNat']; congr 2; omega
      have cx := fun (u : World) (a : Option Addr) (c : Nat) (h : Bytes u (.slice a [UInt8.ofNat x].length c) [UInt8.ofNat x]) => xprint_any a c [UInt8.ofNat x] u h (by simp)
      rw [← hPL] at cx
      have kk := fun u : Ext wr => u.cell hc0
      have Hq := Lib.hid hq
      have HF2 := Lib.hid hF2
      have Hfi := Lib.hid hfi
      have Hnx := Lib.hid hnx
      have Hu8 := Lib.hid hu8
      have Cx := Lib.hid cx
      have Hhx := Lib.hid hHx
      clear hf hH hPL hF2 hq hu8 cx hall hfi hnx hHx hf2 hcc hlt
      go_wp2_with fail
      refine wp_region_typed wr 7 (by kernel_rfl) (by kernel_rfl) (Below.refl _ _) ?_; simp only [List.take_succ_cons, List.take_zero, List.take_nil]
      (refine wpX_step (by rfl) (fun K hK => ?_); go_simp; first | (refine hK _ ?_; clear hK K) | (apply Exists.intro; refine ⟨fun _ => ?_, hK _ ?_⟩; fail; clear hK K))
      refine wpX_rel 15 (SlB [UInt8.ofNat x]) rfl (of_decide_eq_true rfl) (SlB.mono _) (fun w6 hw6 => ?_) ?_
      · simp only [relOf, List.filter_nil, forallRel]
        refine ⟨rfl, ?_⟩
        go_simp
        refine ⟨(Below.refl _ _).alloc (Nat.le_refl _) _, some ⟨w6.heap.size, 0, none⟩, 1, rfl, ?_⟩
        have := Row.built (f := b8) (size := 1) (fun _ => rfl) w6 5 [UInt8.ofNat x] 1 rfl (by unfold maxLen; omega)
        rw [show ([UInt8.ofNat x] : List UInt8).flatMap b8 = [.int .u8 (x : Int)] from by rw [flat_b8]; simp only [List.map_cons, List.map_nil, Hu8.out]] at this
        exact this
      refine wpX_eq (.string ⟨PL.toArray⟩) (fun w6 hw6 => ?_) ?_
      · change forallRel w6 [(15, _)] _ _
        rintro v15 ⟨a, c, rfl, h7⟩
        simp only [forallRel]
        refine ⟨rfl, ?_⟩
        go_simp
        exact (Cx.out w6 a c h7).mono fun e w' q => ⟨_, q.1, rfl, q.2⟩
      iterate 4 (refine wpX_step (by rfl) (fun K hK => ?_); go_simp; first | (refine hK _ ?_; clear hK K) | (apply Exists.intro; refine ⟨fun _ => ?_, hK _ ?_⟩; fail; clear hK K))
      refine wpX_nil ?_
      intro u2 hb2 v15 _
      simp only [forallRel]
      change wpList _ _ _ [] _ _
      simp only [Act.put, List.setIfInBounds_toArray, List.set_cons_zero, List.set_cons_succ]
      have bb2 := Below.then hbr hb2
      cases q with
      | true =>
        have hRe : (⟨(f.drop 2).toArray⟩ : ByteArray) = R := by
          rw [HR.out]
          have := Hfi.out (by rw [← HF2.out]; exact Hq.out.symm)
          unfold lnP fw
          rw [Hhx.out, this]
        clear kk
        go_wp2_with fail
        go_ret
        exact ⟨rfl, bb2⟩
      | false =>
        have hnx' := Hnx.out rfl
        have Hnx' := Lib.hid hnx'
        clear hnx' kk
        go_wp2_with fail
        go_roundw
        case rel => exact ⟨i + 1, by omega, by go_num, by rw [Hhx.out]; exact Hnx'.out, Below.then hwr hb2⟩
        case measure => simp [intOf]; omega
    · obtain rfl : i = 58 := by omega
      have hfw : fw x = none := by
        unfold fw
        rw [List.find?_eq_none]
        intro f hf
        obtain ⟨j, hj⟩ := List.getElem?_of_mem hf
        obtain ⟨h3, h4⟩ := List.getElem?_eq_some_iff.1 hj
        rw [← h4, hall j h3 (by rw [words_len] at h3; exact h3)]; simp
      have hRg : R = ⟨(if inGrp x = true then grp x else []).toArray⟩ := by rw [HR.out]; unfold lnP; rw [hfw]
      have HRg := Lib.hid hRg
      obtain ⟨wk, hwk⟩ : ∃ wk, wk = wr.alloc (.cells (kinds.flatMap kcell).toArray 43) := ⟨_, rfl⟩
      have hrowK : RowOf kcell 4 wk (.slice (some ⟨wr.heap.size, 0, none⟩) 4 4) kinds := by
        rw [hwk]; exact Row.built (f := kcell) (size := 4) (fun _ => rfl) wr 43 kinds 4 rfl (by unfold maxLen; omega)
      have hbk : Below w.heap.size w wk := by rw [hwk]; exact hbr.alloc hbr.size _
      obtain ⟨wo, hwo⟩ : ∃ x, x = wr := ⟨wr, rfl⟩
      subst hwo
      have Hwk := Lib.hid hwk
      have HrowK := Lib.hid hrowK
      clear hall hlt hfw hRg hrowK hwk
      have hwx : IntKind.i64.wrap (x : Int) = (x : Int) := IntWalk.i64_in _ (by omega)
      go_wp2_with fail
      go_loopw [30] (fun ix wr => ∃ k : Nat, k ≤ 4 ∧ ix = .int .i64 (k : Int) ∧ (∀ (j : Nat) (g : List UInt8 × Nat × Nat × Nat), j < k → kinds[j]? = some g → ¬ (g.2.1 ≤ x ∧ x < g.2.1 + g.2.2.2)) ∧ Below wk.heap.size wk wr) (fun ix _ => 4 - (intOf ix).toNat)
      case atStart => exact ⟨0, by omega, rfl, fun j g h => by omega, by rw [Hwk.out]; exact Below.refl _ _⟩
      case round =>
        obtain ⟨k, hkk, rfl, hall, hwk2⟩ := hrel
        have hbr2 := Below.then hbk hwk2
        by_cases hlt : k < 4
        · have hki : (k : Int) < 4 := by omega
          have hkl : k < kinds.length := hlt
          obtain ⟨b2, o2, hab, hrr⟩ := RowOf.range (f := kcell) (size := 4) (fun _ => rfl) (HrowK.out.below hwk2) k hkl
          simp only [Option.some.injEq, Addr.mk.injEq, and_true] at hab
          obtain ⟨rfl, rfl⟩ := hab
          obtain ⟨s1, s2, s3, s4⟩ := kinds_small _ (List.getElem_mem hkl)
          have hat := kinds_at x k hlt _ (List.getElem?_eq_getElem hkl)
          have hnx : ¬ (kinds[k].2.1 ≤ x ∧ x < kinds[k].2.1 + kinds[k].2.2.2) → ∀ (j : Nat) (g : List UInt8 × Nat × Nat × Nat), j < k + 1 → kinds[j]? = some g → ¬ (g.2.1 ≤ x ∧ x < g.2.1 + g.2.2.2) := by
            intro he j g hj hg
            by_cases e : j = k
            · subst e
              rw [List.getElem?_eq_getElem hkl, Option.some.injEq] at hg
              rw [← hg]; exact he
            · exact hall j g (by omega) hg
          obtain ⟨g, hg⟩ : ∃ g, g = kinds[k] := ⟨_, rfl⟩
          rw [← hg] at hrr s1 s2 s3 s4 hat hnx
          obtain ⟨nm, fr, fs, mn⟩ := g
          dsimp only at s1 s2 s3 s4 hat hnx
          have hr2 : wr.rangeAt wo.heap.size (0 + k * 4) [.string ⟨nm.toArray⟩, .int .i64 (fr : Int), .int .i64 (fs : Int), .int .i64 (mn : Int)] := hrr
          rw [Nat.zero_add] at hr2
          have n0 : ∀ (gg : Nat) (u : World), Blk 43 u gg [.string ⟨nm.toArray⟩, .int .i64 (fr : Int), .int .i64 (fs : Int), .int .i64 (mn : Int)] → u.cell? ⟨gg, 0, none⟩ = some (.string ⟨nm.toArray⟩) ∧ u.cell? ⟨gg, 1, none⟩ = some (.int .i64 (fr : Int)) ∧ u.cell? ⟨gg, 2, none⟩ = some (.int .i64 (fs : Int)) ∧ u.cell? ⟨gg, 3, none⟩ = some (.int .i64 (mn : Int)) := fun gg u hb => ⟨(hb.cell 0).trans rfl, (hb.cell 1).trans rfl, (hb.cell 2).trans rfl, (hb.cell 3).trans rfl⟩
          have N0 := Lib.hid n0
          have bA : Below wr.heap.size wr (wr.alloc (.cells #[.string ByteArray.empty, .int .i64 0, .int .i64 0, .int .i64 0] 43)) := (Below.refl _ _).alloc (Nat.le_refl _) _
          have hw1 : IntKind.i64.wrap ((x : Int) - (fr : Int)) = (x : Int) - (fr : Int) := IntWalk.i64_in _ (by omega)
          have Hr2 := Lib.hid hr2
          have Hnx := Lib.hid hnx
          clear n0 hg hrr hnx hall hlt hr2
          by_cases hin : fr ≤ x ∧ x < fr + mn
          · obtain ⟨hg1, hg2, hg3⟩ := hat hin.1 hin.2
            have hn1 : fr ≤ x := hin.1
            have d1 : decide ((0 : Int) ≤ (x : Int) - (fr : Int)) = true := by rw [decide_eq_true_eq]; omega
            have d2 : decide ((x : Int) - (fr : Int) < (mn : Int)) = true := by rw [decide_eq_true_eq]; omega
            obtain ⟨i, hi⟩ : ∃ i, i = x - fr + fs := ⟨_, rfl⟩
            rw [← hi] at hg2 hg3
            have hie : (x : Int) - (fr : Int) + (fs : Int) = (i : Int) := by omega
            have hwi : IntKind.i64.wrap (i : Int) = (i : Int) := IntWalk.i64_in _ (by omega)
            have it := fun u => itoa_any i hg3 u
            have hds := dec_small i hg3
            have hba := ba_add nm (Lib.decDigits i)
            have hRe : (⟨nm.toArray⟩ ++ ⟨(Lib.decDigits i).toArray⟩ : ByteArray) = R := by rw [HRg.out, if_pos hg1, hg2, hba]
            obtain ⟨D, hD⟩ : ∃ D, D = Lib.decDigits i := ⟨_, rfl⟩
            rw [← hD] at hds hRe
            simp only [← hD] at it
            have It := Lib.hid it
            have hsn : (⟨nm.toArray⟩ : ByteArray).size = nm.length := str_size nm
            have hsd : (⟨D.toArray⟩ : ByteArray).size = D.length := str_size D
            have hsm : ¬ 9223372036854775807 < nm.length + D.length := by omega
            clear hat hin hg1 hg2 hi it hba hD
            go_wp2_with (first
              | (refine wpList_loadW (o := ⟨some 33, _, _, _, _, _⟩) 43 (.tmp 32) (by rfl) wo.heap.size (k * 4) (by rfl) aggKind (by rfl) Hr2.out (by rfl) ?_)
              | ((with_reducible show wpList _ _ _ (⟨none, Op.store _ _ (Operand.tmp 33), _, _, _, _⟩ :: _) _ _); refine wpList_storeA (o := ⟨none, _, _, _, _, _⟩) (by rfl) 43 (.tmp 6) (.tmp 33) (by rfl) wr.heap.size [.string ⟨nm.toArray⟩, .int .i64 (fr : Int), .int .i64 (fs : Int), .int .i64 (mn : Int)] (by rfl) (by rfl) aggKind (Blk.new wr 43 [.string ByteArray.empty, .int .i64 0, .int .i64 0, .int .i64 0]) (by rfl) (by rfl) (by intro u hu; simp at hu; rcases hu with rfl | rfl | rfl | rfl <;> rfl) bA (Nat.le_refl _) ?_; intro w5 h7 b5 _; obtain ⟨i0, i1, i2, i3⟩ := N0.out _ _ h7; have bb5 := Below.then hbr2 b5))
            have j0 := fun u : Ext w5 => u.cell i0
            have j2 := fun u : Ext w5 => u.cell i2
            refine wp_region_typed w5 8 (by kernel_rfl) (by kernel_rfl) (Below.refl _ _) ?_; simp only [List.take_succ_cons, List.take_zero, List.take_nil]
            iterate 6 (refine wpX_step (by rfl) (fun K hK => ?_); go_simp; first | (refine hK _ ?_; clear hK K) | (apply Exists.intro; refine ⟨fun _ => ?_, hK _ ?_⟩; fail; clear hK K))
            (refine wpX_step (by rfl) (fun K hK => ?_); go_simp; first | (refine hK _ ?_; clear hK K) | (apply Exists.intro; refine ⟨fun _ => ?_, hK _ ?_⟩; exact It.out _; clear hK K))
            (refine wpX_step (by rfl) (fun K hK => ?_); go_simp; first | (refine hK _ ?_; clear hK K) | (apply Exists.intro; refine ⟨fun _ => ?_, hK _ ?_⟩; fail; clear hK K))
            refine wpX_nil ?_
            intro u2 hb2
            simp only [List.reverse_nil, forallRel]
            change wpList _ _ _ [_] _ _
            go_wp2_with fail
            go_ret
            exact ⟨by first | rfl | exact congrArg (fun b => Ending.returned (Value.string b)) hRe, Below.then bb5 hb2⟩
          · have hnx' := Hnx.out hin
            have Hnx' := Lib.hid hnx'
            have hcase : (fr ≤ x ∧ ¬ x < fr + mn) ∨ ¬ fr ≤ x := by omega
            clear hnx' hat hin
            rcases hcase with ⟨h1, h2⟩ | h1
            · have d1 : decide ((0 : Int) ≤ (x : Int) - (fr : Int)) = true := by rw [decide_eq_true_eq]; omega
              have d2 : decide ((x : Int) - (fr : Int) < (mn : Int)) = false := by rw [decide_eq_false_iff_not]; omega
              clear h2
              go_wp2_with (first
                | (refine wpList_loadW (o := ⟨some 33, _, _, _, _, _⟩) 43 (.tmp 32) (by rfl) wo.heap.size (k * 4) (by rfl) aggKind (by rfl) Hr2.out (by rfl) ?_)
                | ((with_reducible show wpList _ _ _ (⟨none, Op.store _ _ (Operand.tmp 33), _, _, _, _⟩ :: _) _ _); refine wpList_storeA (o := ⟨none, _, _, _, _, _⟩) (by rfl) 43 (.tmp 6) (.tmp 33) (by rfl) wr.heap.size [.string ⟨nm.toArray⟩, .int .i64 (fr : Int), .int .i64 (fs : Int), .int .i64 (mn : Int)] (by rfl) (by rfl) aggKind (Blk.new wr 43 [.string ByteArray.empty, .int .i64 0, .int .i64 0, .int .i64 0]) (by rfl) (by rfl) (by intro u hu; simp at hu; rcases hu with rfl | rfl | rfl | rfl <;> rfl) bA (Nat.le_refl _) ?_; intro w5 h7 b5 _; obtain ⟨i0, i1, i2, i3⟩ := N0.out _ _ h7; have bb5 := Below.then hwk2 b5))
              have hrel3 : ∃ k' : Nat, k' ≤ 4 ∧ Value.int .i64 ((k : Int) + 1) = .int .i64 (k' : Int) ∧ (∀ (j : Nat) (g : List UInt8 × Nat × Nat × Nat), j < k' → kinds[j]? = some g → ¬ (g.2.1 ≤ x ∧ x < g.2.1 + g.2.2.2)) ∧ Below wk.heap.size wk w5 := ⟨k + 1, by omega, by go_num, Hnx'.out, bb5⟩
              go_roundw
              case rel => first | exact hrel3 | ((repeat apply Exists.intro); exact ⟨hrel3, rfl⟩)
              case measure => simp [intOf]; omega
            · have d1 : decide ((0 : Int) ≤ (x : Int) - (fr : Int)) = false := by rw [decide_eq_false_iff_not]; omega
              go_wp2_with (first
                | (refine wpList_loadW (o := ⟨some 33, _, _, _, _, _⟩) 43 (.tmp 32) (by rfl) wo.heap.size (k * 4) (by rfl) aggKind (by rfl) Hr2.out (by rfl) ?_)
                | ((with_reducible show wpList _ _ _ (⟨none, Op.store _ _ (Operand.tmp 33), _, _, _, _⟩ :: _) _ _); refine wpList_storeA (o := ⟨none, _, _, _, _, _⟩) (by rfl) 43 (.tmp 6) (.tmp 33) (by rfl) wr.heap.size [.string ⟨nm.toArray⟩, .int .i64 (fr : Int), .int .i64 (fs : Int), .int .i64 (mn : Int)] (by rfl) (by rfl) aggKind (Blk.new wr 43 [.string ByteArray.empty, .int .i64 0, .int .i64 0, .int .i64 0]) (by rfl) (by rfl) (by intro u hu; simp at hu; rcases hu with rfl | rfl | rfl | rfl <;> rfl) bA (Nat.le_refl _) ?_; intro w5 h7 b5 _; obtain ⟨i0, i1, i2, i3⟩ := N0.out _ _ h7; have bb5 := Below.then hwk2 b5))
              have hrel3 : ∃ k' : Nat, k' ≤ 4 ∧ Value.int .i64 ((k : Int) + 1) = .int .i64 (k' : Int) ∧ (∀ (j : Nat) (g : List UInt8 × Nat × Nat × Nat), j < k' → kinds[j]? = some g → ¬ (g.2.1 ≤ x ∧ x < g.2.1 + g.2.2.2)) ∧ Below wk.heap.size wk w5 := ⟨k + 1, by omega, by go_num, Hnx'.out, bb5⟩
              go_roundw
              case rel => first | exact hrel3 | ((repeat apply Exists.intro); exact ⟨hrel3, rfl⟩)
              case measure => simp [intOf]; omega
        · obtain rfl : k = 4 := by omega
          have hin := kinds_none x (fun j g hg => hall j g (by have := (List.getElem?_eq_some_iff.1 hg).1; simpa [kinds] using this) hg)
          have hRe : (⟨#[]⟩ : ByteArray) = R := by rw [HRg.out, hin]; rfl
          clear hall hlt hin
          go_wp2_with fail
          go_ret
          exact ⟨by first | rfl | exact congrArg (fun b => Ending.returned (Value.string b)) hRe, hbr2⟩
end Go.Proofs.YtkgfijdodbkkgaaDoor
