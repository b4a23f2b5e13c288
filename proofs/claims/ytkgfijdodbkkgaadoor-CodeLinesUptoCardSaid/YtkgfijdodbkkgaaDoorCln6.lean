/- code.Assemble. -/
import Derived.Test.YtkgfijdodbkkgaaDoorCln5
set_option linter.unusedSimpArgs false
set_option linter.unusedVariables false
namespace Go.Proofs.YtkgfijdodbkkgaaDoor
open Go.RowKit
/-- code, or an error -/
def AsPost (R : Option (List UInt8)) (w : World) (e : Ending) (w' : World) : Prop := ∃ (a : Option Addr) (n c : Nat), e = .returned (.tuple #[.slice a n c, .int .i64 (if R.isSome = true then 0 else 1)]) ∧ Bytes w' (.slice a n c) (R.getD []) ∧ Below w.heap.size w w'
theorem AsPost.bad {R : Option (List UInt8)} {w w' : World} (h : R = none) (hb : Below w.heap.size w w') : AsPost R w (.returned (.tuple #[.slice none 0 0, .int .i64 1])) w' := by
  subst h; exact ⟨_, _, _, rfl, RowOf.nil b8 1 _, hb⟩
theorem AsPost.good {R : Option (List UInt8)} {w w' : World} {o : List UInt8} {a : Option Addr} {n c : Nat} (h : R = some o) (hB : Bytes w' (.slice a n c) o) (hb : Below w.heap.size w w') : AsPost R w (.returned (.tuple #[.slice a n c, .int .i64 0])) w' := by
  subst h; exact ⟨_, _, _, rfl, hB, hb⟩
theorem by_form {e : TypeId} {w : World} {B : Nat} {v : Value} {o : List UInt8} (h : OwnOf b8 1 e w B v o) : ∃ a n c, v = .slice a n c ∧ n = o.length := by
  obtain ⟨a, c, e, _⟩ := h.form
  exact ⟨a, _, c, e, rfl⟩
theorem read_len {s b : List UInt8} {q : Bool} (h : readP s = some (b, q)) : b.length ≤ 33 := by
  obtain ⟨x, d, rfl, _, hd, _⟩ := read_some h
  have : puP x.toNat ≤ 32 := push_le x
  rw [List.length_cons]; omega
theorem asm_cons (s : List UInt8) (ls : List (List UInt8)) : asmP (s :: ls) = match readP s with | none => none | some (b, q) => if q = false ∧ ls ≠ [] then none else (asmP ls).map (b ++ ·) := by
  rw [asmP]
  rfl
theorem map_app (o b : List UInt8) (x : Option (List UInt8)) : (x.map (b ++ ·)).map (o ++ ·) = x.map ((o ++ b) ++ ·) := by
  cases x with
  | none => rfl
  | some y => simp
set_option maxHeartbeats 4000000 in
set_option maxRecDepth 100000 in
theorem assemble_any (a : Option Addr) (n c : Nat) (ls : List (List UInt8)) (hn : ls.length = n) (hN : n ≤ 1048576) (hs : ∀ s ∈ ls, s.length ≤ 1048576) (w : World) (h : RowOf fcell 1 w (.slice a n c) ls) (hm : MaxHas w) :
    Calls Tryd.prog 4 #[.slice a n c] w (AsPost (asmP ls) w) := by
  have Hn := Lib.hid hn
  have H := Lib.hid h
  have Hm := Lib.hid hm
  have Hs := Lib.hid hs
  obtain ⟨R, hR⟩ : ∃ R, R = asmP ls := ⟨_, rfl⟩
  have Q0 : R = (asmP (ls.drop 0)).map (([] : List UInt8) ++ ·) := by
    rw [hR, List.drop_zero]
    cases asmP ls <;> simp
  rw [← hR]
  clear h hn hm hs hR
  go_enter Tryd.func4, Tryd.ntmps4
  go_wp2_with fail
  go_loopw [4, 12] (fun v ix wr => ∃ (k : Nat) (o : List UInt8), k ≤ n ∧ ix = .int .i64 (k : Int) ∧ o.length ≤ 33 * k ∧ OwnOf b8 1 5 wr w.heap.size v o ∧ Below w.heap.size w wr ∧ R = (asmP (ls.drop k)).map (o ++ ·)) (fun _ ix _ => n - (intOf ix).toNat)
  case atStart => exact ⟨0, [], by omega, rfl, by simp, OwnOf.nil _ _ _ _ _, Below.refl _ _, Q0⟩
  case round =>
    clear Q0
    obtain ⟨k, o, hk, rfl, hok, O, hb, hT⟩ := hrel
    by_cases hlt : k < n
    · have hki : (k : Int) < (n : Int) := by omega
      have hil : k < ls.length := by rw [Hn.out]; exact hlt
      obtain ⟨b1, o1, rfl, hc⟩ := RowOf.cells (f := fcell) (size := 1) (fun _ => rfl) (H.out.below hb) k hil
      have hc0 := hc 0 _ rfl
      rw [Nat.mul_one, Nat.add_zero] at hc0
      have hwi : IntKind.i64.wrap ((k : Int) + 1) = ((k + 1 : Nat) : Int) := by rw [IntWalk.i64_in _ (by omega)]; omega
      rw [← List.getElem_cons_drop hil, asm_cons] at hT
      have cr := fun u (hu : Below w.heap.size w u) => read_any ls[k] (Hs.out _ (List.getElem_mem hil)) u (Hm.out.below hu)
      have hrl : ls.drop (k + 1) ≠ [] ↔ k + 1 < n := by rw [← Hn.out, ne_eq, List.drop_eq_nil_iff]; omega
      obtain ⟨s, hs⟩ : ∃ s, s = ls[k] := ⟨_, rfl⟩
      obtain ⟨L, hL⟩ : ∃ L, L = ls.drop (k + 1) := ⟨_, rfl⟩
      rw [← hs] at hc0
      rw [← hs, ← hL] at hT
      simp only [← hs] at cr
      rw [← hL] at hrl
      unfold RdPost at cr
      obtain ⟨oa, on, oc, rfl, hon⟩ := by_form O
      have Hon := Lib.hid hon
      have HL := Lib.hid hL
      have Hrl := Lib.hid hrl
      have HT := Lib.hid hT
      have Cr := Lib.hid cr
      change wr.cell? _ = some (Value.string ⟨s.toArray⟩) at hc0
      clear hc hs hL hrl hT cr hon hil
      go_upto_region 6 with (first
        | (go_at_call 9; (with_reducible refine (Cr.out _ hb).mono ?_); rintro e w2 ⟨va, vn, vc, b, q, ok, rfl, V2, hR, b2⟩))
      have bb2 := Below.then hb b2
      have O2 := O.kept b2
      clear Cr O
      cases ok with
      | false =>
        have hbad : R = none := by rw [HT.out]; rw [show readP s = none from hR]; rfl
        clear HT hR Hrl
        go_wp2_with fail
        go_ret2
        exact AsPost.bad hbad bb2
      | true =>
        have hR2 : readP s = some (b, q) := hR
        have hbl := read_len hR2
        have HT2 : Hid (R = (if q = false ∧ L ≠ [] then none else (asmP L).map (b ++ ·)).map (o ++ ·)) := Lib.hid (by rw [HT.out, hR2])
        obtain ⟨bl, hbl2⟩ : ∃ m, m = b.length := ⟨_, rfl⟩
        have hvn := RowOf.fits V2
        clear HT hR hR2
        cases q with
        | true =>
          have HT3 : Hid (R = (asmP L).map ((o ++ b) ++ ·)) := Lib.hid (by rw [HT2.out, if_neg (by simp), map_app])
          clear HT2 hbl2 hvn
          go_wp2_with (first
            | (refine wpList_appA (o := ⟨some 38, _, _, _, _, _⟩) (by rfl) (.tmp 36) (.tmp 37) 22 (by rfl) elU8 (by rfl) O2 (by rfl) V2 bb2.size (by omega) (by unfold maxLen; omega) ?_; intro v5 w5 hA5 hg5 _; have bb5 := bb2.grown hg5 bb2.size (fun j hj => O2.lt j hj)))
          go_roundw
          case rel => exact ⟨k + 1, o ++ b, by omega, by go_num, by rw [List.length_append]; omega, hA5, bb5, by rw [HT3.out, HL.out]⟩
          case measure => simp [intOf]; omega
        | false =>
          clear hbl2 hvn
          by_cases hl : k + 1 < n
          · have hbad : R = none := by rw [HT2.out, if_pos ⟨rfl, Hrl.out.2 hl⟩]; rfl
            have hli : ((k + 1 : Nat) : Int) < (n : Int) := by omega
            clear HT2 Hrl
            go_wp2_with fail
            go_ret2
            exact AsPost.bad hbad bb2
          · have HT3 : Hid (R = (asmP L).map ((o ++ b) ++ ·)) := Lib.hid (by rw [HT2.out, if_neg (fun e => hl (Hrl.out.1 e.2)), map_app])
            have hli : ¬ ((k + 1 : Nat) : Int) < (n : Int) := by omega
            clear HT2 Hrl
            go_wp2_with (first
              | (refine wpList_appA (o := ⟨some 38, _, _, _, _, _⟩) (by rfl) (.tmp 36) (.tmp 37) 22 (by rfl) elU8 (by rfl) O2 (by rfl) V2 bb2.size (by omega) (by unfold maxLen; omega) ?_; intro v5 w5 hA5 hg5 _; have bb5 := bb2.grown hg5 bb2.size (fun j hj => O2.lt j hj)))
            go_roundw
            case rel => exact ⟨k + 1, o ++ b, by omega, by go_num, by rw [List.length_append]; omega, hA5, bb5, by rw [HT3.out, HL.out]⟩
            case measure => simp [intOf]; omega
    · obtain rfl : k = n := by omega
      obtain ⟨oa, oc, rfl, _⟩ := O.form
      have hg : R = some o := by
        rw [hT, ← Hn.out, List.drop_length, asmP]; simp
      clear hT
      go_wp2_with fail
      go_ret2
      exact AsPost.good hg O.row hb
end Go.Proofs.YtkgfijdodbkkgaaDoor
