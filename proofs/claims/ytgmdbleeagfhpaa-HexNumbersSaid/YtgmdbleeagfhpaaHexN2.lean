/- hex.Number. -/
import Derived.Test.YtgmdbleeagfhpaaHexN1
import Derived.Test.YtgmdbleeagfhpaaRow
set_option linter.unusedSimpArgs false
set_option linter.unusedVariables false
namespace Go.Proofs.Ytgmdbleeagfhpaa
open Go.RowKit
theorem print_l (a : Option Addr) (n c : Nat) (l : List UInt8) (s : ByteArray) (hn : l.length = n) (hs : s = ⟨(printL l).toArray⟩) (w : World) (h : Bytes w (.slice a n c) l) (hl : 2 * n + 2 ≤ 140737488355328) :
    Calls Try.prog 107 #[.slice a n c] w fun e w' => e = .returned (.string s) ∧ Below w.heap.size w w' := by
  subst hn; subst hs; exact print_any a c l w h hl
theorem ba_drop (s : ByteArray) (k : Nat) : (s.extract k s.size).data.toList = s.data.toList.drop k := by
  rw [← ByteArray.toList_eq]
  simp [ByteArray.toList_eq]
  exact List.take_of_length_le (by rw [List.length_drop, Array.length_toList]; exact Nat.le_refl _)
theorem ret_str {a : ByteArray} {l : List UInt8} (h : a = ⟨l.toArray⟩) : Ending.returned (.string a) = .returned (str l) := by rw [h]; rfl
def strLen : Value → Nat
  | .string s => s.size
  | _ => 0
theorem ba_add (a s : ByteArray) : (a ++ s).data.toList = a.data.toList ++ s.data.toList := by simp
theorem ba_ext {s : ByteArray} {l : List UInt8} (h : s.data.toList = l) : s = ⟨l.toArray⟩ := by
  cases s; subst h; simp
theorem row_wb (e : TypeId) (N g : Nat) (w : World) (h : Blk e w g (hcs N)) : Bytes w (.slice (some ⟨g, 0, none⟩) 32 32) (wb N) :=
  h.row (wb N) 32 32 (fun _ => rfl) (wb_len N) (fun j u hu => by rw [flat_b8] at hu; exact hu) (Nat.le_refl _) (by unfold maxLen; omega)
set_option maxHeartbeats 400000 in
set_option maxRecDepth 100000 in
theorem number_any (N : Nat) (hN : N < W256) (w : World) : Calls Try.prog 51 #[wv N] w fun e w' => e = .returned (str (numS N)) ∧ Below w.heap.size w w' := by
  have hb0 := boxW w N
  have hbel0 : Below w.heap.size w (w.alloc (.cells (wcs N).toArray 24)) := (Below.refl _ _).alloc (Nat.le_refl _) _
  obtain ⟨w1, hw1⟩ : ∃ w1, w1 = w.alloc (.cells (wcs N).toArray 24) := ⟨_, rfl⟩
  rw [← hw1] at hb0 hbel0
  show Calls Try.prog 51 #[.agg (wcs N).toArray] w _
  obtain ⟨s0, hs0⟩ : ∃ s : ByteArray, s = ⟨(printL (wb N)).toArray⟩ := ⟨_, rfl⟩
  have hl0 : s0.data.toList = printL (wb N) := by rw [hs0]
  have hsz0 : s0.size = 66 := by
    show s0.data.size = 66
    rw [← Array.length_toList, hl0]
    show (hexL (wb N)).length + 1 + 1 = 66
    rw [hexL_len, wb_len]
  have h2 : (2 : Int) ≤ (s0.size : Int) := by omega
  have hd1 : (s0.extract 2 s0.size).data.toList = (halvesL (wb N)).map hexd := by rw [ba_drop, hl0, ← hexL_halves]; rfl
  have Hs0 := Lib.hid hs0
  have Hd1 := Lib.hid hd1
  have cb : ∀ w, Calls Try.prog 82 #[.agg (wcs N).toArray] w fun e w' => e = .returned (.agg (hcs N).toArray) ∧ Below w.heap.size w w' := fun w => bytes_any N w
  have Cb := Lib.hid cb
  have Hw1 := Lib.hid hw1
  clear hs0 hl0 hd1 hsz0 cb hw1
  go_enter Try.func51, Try.ntmps51
  go_wp2_with (first
    | (rw [show w.alloc (.cells (wcs N).toArray 24) = w1 from Hw1.out.symm])
    | (refine wpList_loadA (o := ⟨some 5, _, _, _, _, _⟩) (by rfl) 24 (.tmp 1) (by rfl) (w.heap.size) (by rfl) aggWord hb0 (wcs_len _) ?_)
    | (go_at_call 82; (with_reducible refine (Cb.out _).mono ?_); rintro e w2 ⟨rfl, b2⟩; have hbel2 := Below.then hbel0 b2)
    | (refine wpList_storeA (by rfl) 43 (.tmp 3) (.tmp 6) (by rfl) w2.heap.size (hcs N) (by rfl) (by rfl) aggHash (Blk.new w2 43 z32) (hcs_len _) (by rfl) (hcs_one _) (Below.alloc (Below.refl w2.heap.size w2) (Nat.le_refl _) _) (Nat.le_refl _) ?_; intro w3 h3 b3 _; have hr3 := row_wb _ N _ _ h3; have hbel3 := Below.then hbel2 b3)
    | (go_at_call 107; (with_reducible refine (print_l _ 32 32 (wb N) s0 (wb_len N) Hs0.out _ hr3 (by omega)).mono ?_); rintro e w4 ⟨rfl, b4⟩; have hbel4 := Below.then hbel3 b4))
  go_loopw [4] (fun v wr => ∃ (s : ByteArray) (D : List UInt8), v = .string s ∧ s.data.toList = D.map hexd ∧ D ≠ [] ∧ (∀ x ∈ D, x.toNat < 16) ∧ strip D = numD N ∧ D.length ≤ 64 ∧ Below w.heap.size w wr) (fun v _ => strLen v)
  case atStart => exact ⟨_, halvesL (wb N), rfl, Hd1.out, by intro h; have := halves_len (wb N); rw [h, wb_len] at this; simp at this, fun x hx => halves_mem hx, strip_word N hN, by rw [halves_len, wb_len]; omega, hbel4⟩
  case round =>
    clear hbel4 hbel3 hbel2 hbel0 hr3 h3 b3 b4 b2 hb0 h2
    obtain ⟨s, D, rfl, hs, hne, hd, hst, h64, hbel⟩ := hrel
    have hlen : s.size = D.length := by
      show s.data.size = _
      rw [← Array.length_toList, hs, List.length_map]
    match D, hne with
    | [x], _ =>
      have hst1 : numD N = [x] := hst.symm
      have hfin : (⟨#[48, 120]⟩ : ByteArray) ++ s = ⟨(numS N).toArray⟩ := ba_ext (by rw [ba_add, hs]; unfold numS; rw [hst1]; rfl)
      have hl1 : (s.size : Int) = 1 := by rw [hlen]; rfl
      have hd1 : decide ((1 : Int) < (s.size : Int)) = false := by rw [decide_eq_false_iff_not]; omega
      have hd2 : decide (1 < s.size) = false := by rw [decide_eq_false_iff_not]; omega
      have hle : (s.size : Int) ≤ 1 := by omega
      have hle' : s.size ≤ 1 := by omega
      have Hfin := Lib.hid hfin
      clear hst hst1 hfin hs hd hlen hl1
      go_wp2
      go_ret
      exact ⟨ret_str Hfin.out, hbel⟩
    | x :: y :: D, _ =>
      have hl2 : 2 ≤ s.size := by rw [hlen]; simp
      have hsz64 : s.size ≤ 64 := by rw [hlen]; exact h64
      have hsz64' : (s.size : Int) ≤ 64 := by omega
      have hl2' : (1 : Int) < (s.size : Int) := by omega
      have h0 : 0 < s.size := by omega
      have hget : s[0]'h0 = hexd x := by
        have h1 : s.data.toList[0]? = some (hexd x) := by rw [hs]; rfl
        have h2 : s.data.toList[0]? = some (s[0]'h0) := by rw [List.getElem?_eq_getElem (by rw [Array.length_toList]; exact h0)]; rfl
        rw [h2] at h1
        exact Option.some.inj h1
      have hx16 := hd x (List.mem_cons_self ..)
      by_cases hx : x = 0
      · subst hx
        have hst1 : strip (y :: D) = numD N := by rw [← hst]; rw [strip, if_pos rfl]
        have hd1 : decide ((1 : Int) < (s.size : Int)) = true := by rw [decide_eq_true_eq]; omega
        have hq : (((s[0]'h0).toNat : Int) == 48) = true := by rw [hget]; rfl
        have hnx : (s.extract 1 s.size).data.toList = (y :: D).map hexd := by rw [ba_drop, hs]; rfl
        have hsm : (s.extract 1 s.size).size < s.size := by
          show (s.extract 1 s.size).data.size < _
          rw [← Array.length_toList, hnx, List.length_map, hlen]; simp
        have Hst1 := Lib.hid hst1
        have Hnx := Lib.hid hnx
        have Hsm := Lib.hid hsm
        have Hd := Lib.hid hd
        clear hst hst1 hnx hsm hs hd hlen hget
        go_wp2
        go_roundw
        case rel => exact ⟨_, y :: D, rfl, Hnx.out, by simp, fun z hz => Hd.out z (List.mem_cons_of_mem _ hz), Hst1.out, by simp at h64 ⊢; omega, hbel⟩
        case measure => exact Hsm.out
      · have hst1 : numD N = x :: y :: D := by rw [← hst]; rw [strip, if_neg hx]
        have hfin : (⟨#[48, 120]⟩ : ByteArray) ++ s = ⟨(numS N).toArray⟩ := ba_ext (by rw [ba_add, hs]; unfold numS; rw [hst1]; rfl)
        have hd1 : decide ((1 : Int) < (s.size : Int)) = true := by rw [decide_eq_true_eq]; omega
        have hq : (((s[0]'h0).toNat : Int) == 48) = false := by
          rw [hget, beq_eq_false_iff_ne]
          intro e
          exact hx ((hexd_nought x hx16).1 (UInt8.toNat_inj.1 (by show (hexd x).toNat = 48; omega)))
        have Hfin := Lib.hid hfin
        clear hst hst1 hfin hs hd hlen hget
        go_wp2
        go_ret
        exact ⟨ret_str Hfin.out, hbel⟩
end Go.Proofs.Ytgmdbleeagfhpaa
