/- code.line, code.Disassemble. -/
import Derived.Test.YtkgfijdodbkkgaaDoorCln2
import Derived.Test.YtkgfijdodbkkgaaDoorCode3
import Derived.Test.YtkgfijdodbkkgaaDoorHex6
set_option linter.unusedSimpArgs false
set_option linter.unusedVariables false
namespace Go.Proofs.YtkgfijdodbkkgaaDoor
open Go.RowKit
theorem pu_push (x : UInt8) : puP x.toNat = push x := rfl
theorem wf_nat (k : Nat) (h : k ≤ 1048576) : (Lit.int .i64 (k : Int)).wf = true := by
  have : IntKind.i64.wrap (k : Int) = (k : Int) := IntWalk.i64_in _ (by omega)
  have h2 := wf_wrap .i64 (k : Int)
  rw [this] at h2; exact h2
theorem take_part (l : List UInt8) (i p : Nat) : (l.take (min (i + p) l.length)).drop i = (l.drop i).take p := by
  rw [List.drop_take]
  by_cases h : i + p ≤ l.length
  · rw [Nat.min_eq_left h]; congr 1; omega
  · rw [Nat.min_eq_right (by omega), List.take_of_length_le (by rw [List.length_drop]; omega), List.take_of_length_le (by rw [List.length_drop]; omega)]
theorem one_part (l : List UInt8) (k : Nat) (h : k < l.length) : (l.take (k + 1)).drop k = [l[k]] := by
  rw [List.drop_take, show k + 1 - k = 1 from by omega, ← List.getElem_cons_drop h]; rfl
theorem str_cat (A B : List UInt8) : Value.string (⟨A.toArray⟩ ++ ⟨#[32]⟩ ++ ⟨B.toArray⟩ : ByteArray) = str (A ++ 32 :: B) := by
  unfold str
  congr 1
  rw [ByteArray.mk_append_mk, ByteArray.mk_append_mk]
  congr 1
  simp
theorem idx_at {a : Option Addr} {n c b off k : Nat} (ha : a = some ⟨b, off, none⟩) (hk : (k : Int) < (n : Int)) (w : World) : (Instr.indexAt 22 (.slice a n c) (.int .i64 (k : Int))).run Tryd.prog w = .ok (.pointer (some ⟨b, off + k, none⟩)) w := by
  subst ha
  have h0 : ¬ (k : Int) < 0 := by omega
  go_simp
set_option maxHeartbeats 2000000 in
set_option maxRecDepth 100000 in
theorem line_any (a : Option Addr) (n c : Nat) (l : List UInt8) (hn : l.length = n) (k : Nat) (hk : k < l.length) (hl : n ≤ 1048576) (w : World) (h : Bytes w (.slice a n c) l) :
    Calls Tryd.prog 14 #[.slice a n c, .int .i64 (k : Int)] w fun e w' => e = .returned (str (lnO l[k] ((l.drop (k + 1)).take (puP l[k].toNat)))) ∧ Below w.heap.size w w' := by
  have hkn : k < n := by omega
  have hki : (k : Int) < (n : Int) := by omega
  obtain ⟨X, hX⟩ : ∃ X : Int, X = ((k + 1 : Nat) : Int) := ⟨_, rfl⟩
  have hwi : IntKind.i64.wrap ((k : Int) + 1) = X := by rw [IntWalk.i64_in _ (by omega)]; omega
  obtain ⟨b, off, ha, hc⟩ := h.at k hk
  have hix := fun w' => idx_at (n := n) (c := c) ha hki w'
  obtain ⟨a1, c1, s1, B1⟩ := RowOf.between (P := Tryd.prog) (t := 22) elU8 h k (k + 1) (by omega) (by omega) (k : Int) X rfl hX
  have hnx := next_in l k hk
  rw [hn] at hnx
  have cx := fun u (hu : Bytes u (.slice a n c) l) => next_any a c l (k : Int) (wf_nat k (by omega)) u (by rw [hn]; exact hu) (by omega)
  rw [hn] at cx
  rw [one_part l k hk] at B1
  have hpl := push_le l[k]
  obtain ⟨m, hm⟩ : ∃ m, m = min (k + 1 + push l[k]) n := ⟨_, rfl⟩
  obtain ⟨Y, hY⟩ : ∃ Y : Int, Y = (m : Int) := ⟨_, rfl⟩
  obtain ⟨a2, c2, s2, B2⟩ := RowOf.between (P := Tryd.prog) (t := 22) elU8 h (k + 1) m (by omega) (by omega) X Y hX hY
  have hpart : (l.take m).drop (k + 1) = (l.drop (k + 1)).take (push l[k]) := by
    rw [hm, ← hn]; exact take_part l (k + 1) (push l[k])
  rw [hpart] at B2
  rw [← hm, ← hY] at hnx
  have hdl : ((l.drop (k + 1)).take (push l[k])).length = m - (k + 1) := by rw [List.length_take, List.length_drop, hm, hn]; omega
  rw [pu_push]
  obtain ⟨x, hx⟩ : ∃ x, x = l[k] := ⟨_, rfl⟩
  obtain ⟨D, hD⟩ : ∃ D, D = (l.drop (k + 1)).take (push l[k]) := ⟨_, rfl⟩
  simp only [← hD] at B2 hdl ⊢
  simp only [← hx] at hc B1 hpl hm ⊢
  have hu8 := u8_lt x
  have hln : lnO x D = if nmP x.toNat = [] then printL [x] else if 0 < push x then nmP x.toNat ++ 32 :: printL D else nmP x.toNat := rfl
  have cn := fun u => name_any x.toNat (by omega) u
  have cp := fun u => pushed_any x u
  have c1' := fun u (hu : Bytes u (.slice a1 (k + 1 - k) c1) [x]) => print_any a1 c1 [x] u (by rw [show k + 1 - k = 1 from by omega] at hu; exact hu) (by simp)
  have c2' := fun u (hu : Bytes u (.slice a2 (m - (k + 1)) c2) D) => print_any a2 c2 D u (by rw [hdl]; exact hu) (by rw [hdl]; omega)
  rw [hdl] at c2'
  have h32 : k + 1 - k = 1 := by omega
  rw [h32] at s1 B1 c1'
  change ∀ u, _ → Calls Tryd.prog 26 #[.slice a1 1 c1] u (fun e w' => e = .returned (str (printL [x])) ∧ Below u.heap.size u w') at c1'
  obtain ⟨A, hA⟩ : ∃ A, A = nmP x.toNat := ⟨_, rfl⟩
  rw [← hA] at hln
  simp only [← hA] at cn
  have hAl : A.length ≤ 9 := by
    have key : (List.range 256).all (fun x => decide ((nmP x).length ≤ 9)) = true := by kernel_rfl
    have := List.all_eq_true.1 key x.toNat (List.mem_range.2 x.toNat_lt)
    rw [decide_eq_true_eq, ← hA] at this
    exact this
  have hDl : (printL D).length ≤ 70 := by
    have : (printL D).length = 2 * D.length + 2 := by simp [printL, hexL_len]
    rw [this, hdl]; omega
  obtain ⟨q, hq⟩ : ∃ q, q = push x := ⟨_, rfl⟩
  simp only [← hq] at cp hln
  obtain ⟨PX, hPX⟩ : ∃ A, A = printL [x] := ⟨_, rfl⟩
  obtain ⟨PD, hPD⟩ : ∃ A, A = printL D := ⟨_, rfl⟩
  simp only [← hPX] at c1' hln
  simp only [← hPD] at c2' hln hDl
  have Cx := Lib.hid cx
  have Cn := Lib.hid cn
  have Cp := Lib.hid cp
  have C1 := Lib.hid c1'
  have C2 := Lib.hid c2'
  have Hnx := Lib.hid hnx
  have H := Lib.hid h
  have HB1 := Lib.hid B1
  have HB2 := Lib.hid B2
  have Hc : Hid (∀ u, Below w.heap.size w u → u.cell? ⟨b, off + k, none⟩ = some (.int .u8 (x.toNat : Int))) := Lib.hid fun u hu => (hu.cell (World.block_lt_of_cell? w _ hc)).trans hc
  obtain ⟨LN, hLN⟩ : ∃ L, L = lnO x D := ⟨_, rfl⟩
  rw [← hLN]
  rw [← hLN] at hln
  clear hX hY ha cx cn cp c1' c2' hnx h B1 B2 hA hq hPX hPD hdl hm hD hx hpart hl hpl hLN
  by_cases hA0 : A = []
  · rw [if_pos hA0] at hln
    subst hA0
    subst hln
    go_enter Tryd.func14, Tryd.ntmps14
    go_wp2_with (first
      | (go_at_call 20; (with_reducible refine (Cn.out _).mono ?_); rintro e w2 ⟨rfl, b2⟩; have d2 := HB1.out.below b2)
      | (go_at_call 26; (with_reducible refine (C1.out _ d2).mono ?_); rintro e w3 ⟨rfl, b3⟩))
    go_ret
    exact ⟨rfl, Below.then b2 b3⟩
  · rw [if_neg hA0] at hln
    have hAb : (A == []) = false := by simp [hA0]
    by_cases h0 : 0 < q
    · rw [if_pos h0] at hln
      subst hln
      have hq0 : (0 : Int) < (q : Int) := by omega
      go_enter Tryd.func14, Tryd.ntmps14
      go_wp2_with (first
        | (go_at_call 20; (with_reducible refine (Cn.out _).mono ?_); rintro e w2 ⟨rfl, b2⟩; have e2 := Hc.out w2 b2)
        | (go_at_call 21; (with_reducible refine (Cp.out _).mono ?_); rintro e w3 ⟨rfl, rfl⟩)
        | (go_at_call 13; (with_reducible refine (Cx.out _ (H.out.below b2)).mono ?_); rintro e w4 ⟨rfl, rfl⟩; rw [Hnx.out]; have d2 := HB2.out.below b2)
        | (go_at_call 26; (with_reducible refine (C2.out _ d2).mono ?_); rintro e w5 ⟨rfl, b5⟩))
      go_ret
      exact ⟨congrArg Ending.returned (str_cat A PD), Below.then b2 b5⟩
    · rw [if_neg h0] at hln
      subst hln
      have hq0 : ¬ (0 : Int) < (q : Int) := by omega
      go_enter Tryd.func14, Tryd.ntmps14
      go_wp2_with (first
        | (go_at_call 20; (with_reducible refine (Cn.out _).mono ?_); rintro e w2 ⟨rfl, b2⟩; have e2 := Hc.out w2 b2)
        | (go_at_call 21; (with_reducible refine (Cp.out _).mono ?_); rintro e w3 ⟨rfl, rfl⟩))
      go_ret
      exact ⟨rfl, b2⟩
theorem elSt : El0 Tryd.prog 23 9 (.string ByteArray.empty) 1 16 fcell := ⟨by kernel_rfl, by kernel_rfl, rfl, by omega, fun _ => rfl⟩
theorem fcell_one (L : List (List UInt8)) : ∀ u ∈ L.flatMap fcell, u.oneCell' = true := by
  intro u hu
  rw [flat_f] at hu
  obtain ⟨x, _, rfl⟩ := List.mem_map.1 hu
  rfl
/-- a list of strings of one's own in the making -/
structure StW (w0 : World) (v : Value) (o : List (List UInt8)) (u : World) : Prop where
  hb : Below w0.heap.size w0 u
  ho : OwnOf fcell 1 9 u w0.heap.size v o
theorem StW.kept {w0 u u' : World} {v : Value} {o : List (List UInt8)} (h : StW w0 v o u) (hb : Below u.heap.size u u') : StW w0 v o u' := ⟨Below.then h.hb hb, h.ho.kept hb⟩
theorem StW.grew {w0 u u' : World} {v v' : Value} {o : List (List UInt8)} {x : List UInt8} (h : StW w0 v o u) (hg : u.grownBy u' v.ownBlock) (ho : OwnOf fcell 1 9 u' w0.heap.size v' (o ++ [x])) : StW w0 v' (o ++ [x]) u' := ⟨h.hb.grown hg h.hb.size (fun k hk => h.ho.lt k hk), ho⟩
theorem st_form {e : TypeId} {w : World} {B : Nat} {v : Value} {o : List (List UInt8)} (h : OwnOf fcell 1 e w B v o) : ∃ a n c, v = .slice a n c ∧ n = o.length := by
  obtain ⟨a, c, e, _⟩ := h.form
  exact ⟨a, _, c, e, rfl⟩
theorem St_one (w : World) (x : List UInt8) : RowOf fcell 1 (w.alloc (.cells #[.string ⟨x.toArray⟩] 9)) (.slice (some ⟨w.heap.size, 0, none⟩) 1 1) [x] := Row.built (f := fcell) (size := 1) (fun _ => rfl) w 9 [x] 1 rfl (by unfold maxLen; omega)
set_option maxHeartbeats 2000000 in
set_option maxRecDepth 100000 in
theorem disassemble_any (a : Option Addr) (n c : Nat) (l : List UInt8) (hn : l.length = n) (hl : n ≤ 1048576) (w : World) (h : Bytes w (.slice a n c) l) :
    Calls Tryd.prog 7 #[.slice a n c] w fun e w' => ∃ v, e = .returned v ∧ OwnOf fcell 1 9 w' w.heap.size v (dis l) ∧ Below w.heap.size w w' := by
  have Hn := Lib.hid hn
  have H := Lib.hid h
  clear h hn
  go_enter Tryd.func7, Tryd.ntmps7
  go_wp2_with fail
  go_loopw [3, 4] (fun v i wr => ∃ (k : Nat) (o : List (List UInt8)), k ≤ n ∧ i = .int .i64 (k : Int) ∧ o.length ≤ k ∧ StW w v o wr ∧ dis l = o ++ dis (l.drop k)) (fun _ i _ => n - (intOf i).toNat)
  case atStart => exact ⟨0, [], Nat.zero_le _, rfl, Nat.le_refl _, ⟨Below.refl _ _, OwnOf.nil _ _ _ _ _⟩, rfl⟩
  case round =>
    obtain ⟨k, o, hk, rfl, hok, F, hT⟩ := hrel
    by_cases hlt : k < n
    · have hil : k < l.length := by rw [Hn.out]; exact hlt
      have hstep := dis_at l k hil
      have hnext := next_in l k hil
      have cl := fun u (hu : Below w.heap.size w u) => line_any a n c l Hn.out k hil hl u (H.out.below hu)
      have cx := fun u (hu : Below w.heap.size w u) => next_any a c l (k : Int) (wf_nat k (by omega)) u (by rw [Hn.out]; exact H.out.below hu) (by rw [Hn.out]; omega)
      rw [Hn.out] at cx hstep hnext
      rw [pu_push] at hstep
      obtain ⟨m, hm⟩ : ∃ m, m = min (k + 1 + push l[k]) n := ⟨_, rfl⟩
      obtain ⟨LN, hLN⟩ : ∃ L, L = lnO l[k] ((l.drop (k + 1)).take (puP l[k].toNat)) := ⟨_, rfl⟩
      rw [pu_push] at hLN
      simp only [← hm] at hstep hnext
      rw [← hLN] at hstep
      simp only [pu_push] at cl
      simp only [← hLN] at cl
      have hmk : k < m := by omega
      have hml : m ≤ n := by omega
      have hki : (k : Int) < (n : Int) := by omega
      rw [hstep] at hT
      have HT : Hid (dis l = (o ++ [LN]) ++ dis (l.drop m)) := Lib.hid (by rw [List.append_assoc]; exact hT)
      have Hm := Lib.hid hnext
      have Cl := Lib.hid cl
      have Cx := Lib.hid cx
      obtain ⟨pa, pn, pc, rfl, hpn⟩ := st_form F.ho
      have Hpn := Lib.hid hpn
      clear hT hstep hnext cl cx hm hLN hpn
      go_wp2_with (first
        | (go_at_call 14; (with_reducible refine (Cl.out _ F.hb).mono ?_); rintro e w2 ⟨rfl, b2⟩; have F2 := F.kept b2; have F3 := F2.kept ((Below.refl _ _).alloc (Nat.le_refl _) (.cells #[.string ⟨LN.toArray⟩] 9)); have r3 := St_one w2 LN)
        | (refine wpList_appB (o := ⟨some 17, _, _, _, _, _⟩) (by rfl) (.tmp 12) (.tmp 16) 23 (by rfl) elSt (fcell_one [LN]) (by rfl) F3.ho (by rfl) r3 F3.hb.size (by simp only [List.length_singleton]; omega) (by unfold maxLen; simp only [List.length_singleton]; omega) ?_; intro v4 w4 hv4 hg4 _; have F4 := F3.grew hg4 hv4)
        | (go_at_call 13; (with_reducible refine (Cx.out _ F4.hb).mono ?_); rintro e w' ⟨rfl, rfl⟩; rw [Hm.out]))
      go_roundw
      case rel => exact ⟨m, _, hml, rfl, by rw [List.length_append, List.length_singleton]; omega, F4, HT.out⟩
      case measure => simp [intOf]; omega
    · obtain rfl : k = n := by omega
      rw [← Hn.out, List.drop_length, dis_nil, List.append_nil] at hT
      have hown := F.ho
      rw [← hT] at hown
      have hb := F.hb
      clear F hT
      go_wp2
      go_ret
      exact ⟨_, rfl, hown, hb⟩
end Go.Proofs.YtkgfijdodbkkgaaDoor
