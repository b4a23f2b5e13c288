/- The reference's LDisassemble. -/
import Derived.Test.YtkgfijdodbkkgaaDoorCln3
set_option linter.unusedSimpArgs false
set_option linter.unusedVariables false
namespace Go.Proofs.YtkgfijdodbkkgaaDoor
open Go.RowKit
theorem tabC {w w' : World} {zs : List Int} (h : Lib.TabIs Tryd.prog w "strings.asciiSpace" .u8 zs) (hb : Below w.heap.size w w') : Lib.TabIs Tryd.prog w' "strings.asciiSpace" .u8 zs := by
  have hgn : Tryd.prog.globalNamed "strings.asciiSpace" = some 0 := by kernel_rfl
  unfold Lib.TabIs World.var? at h ⊢
  rw [hgn] at h ⊢
  simp only [Option.bind_some] at h ⊢
  have hlt : 0 < w.heap.size := by
    rcases Nat.lt_or_ge 0 w.heap.size with h' | h'
    · exact h'
    · rw [Array.getElem?_eq_none h'] at h; cases h
  rw [hb.block 0 hlt]
  exact h
theorem idx_0 {a : Option Addr} {n c b off : Nat} (ha : a = some ⟨b, off, none⟩) (hk : 0 < n) (w : World) : (Instr.indexAt 22 (.slice a n c) (.int .i64 0)).run Tryd.prog w = .ok (.pointer (some ⟨b, off, none⟩)) w := by
  have := idx_at (k := 0) (c := c) ha (by omega : ((0 : Nat) : Int) < (n : Int)) w
  simpa using this
theorem str_cat2 (A B : List UInt8) : Value.string (⟨A.toArray⟩ ++ (⟨#[32]⟩ ++ ⟨B.toArray⟩) : ByteArray) = str (A ++ 32 :: B) := by
  unfold str
  congr 1
theorem head_bytes {w : World} {a : Option Addr} {n c : Nat} {x : UInt8} {r : List UInt8} (h : Bytes w (.slice a n c) (x :: r)) : Bytes w (.slice a 1 c) [x] := by
  obtain ⟨b, off, rfl, hc⟩ := h.at 0 (by simp)
  have hf := h.fits
  refine ⟨rfl, _, _, rfl, by have := hf.1; have := hf.2.1; simp only [List.length_cons, List.length_nil] at *; omega, hf.2.2, .inr ⟨b, off, none, rfl, .inl rfl, fun j u hu => ?_⟩⟩
  match j, hu with
  | 0, hu =>
    simp only [List.flatMap_cons, List.flatMap_nil, List.append_nil, b8, List.getElem?_cons_zero, Option.some.injEq] at hu
    rw [← hu]
    exact hc
  | j + 1, hu => simp [b8] at hu
set_option maxHeartbeats 4000000 in
set_option maxRecDepth 100000 in
theorem ldisassemble_any (a : Option Addr) (n c : Nat) (l : List UInt8) (hn : l.length = n) (hl : n ≤ 1048576) (w : World) (h : Bytes w (.slice a n c) l) (ht : Lib.TabIs Tryd.prog w "strings.asciiSpace" .u8 Lib.asciiSpaceTab) :
    Calls Tryd.prog 8 #[.slice a n c] w fun e w' => ∃ v, e = .returned v ∧ OwnOf fcell 1 9 w' w.heap.size v (dis l) ∧ Below w.heap.size w w' := by
  have Ht := Lib.hid ht
  obtain ⟨L, hL⟩ : ∃ L, L = dis l := ⟨_, rfl⟩
  have Q0 : Bytes w (.slice a n c) (l.drop 0) ∧ L = [] ++ dis (l.drop 0) := ⟨h, hL⟩
  rw [← hL]
  clear hL h ht
  go_enter Tryd.func8, Tryd.ntmps8
  go_wp2_with fail
  go_loopw [0, 3] (fun cv v wr => ∃ (r : List UInt8) (o : List (List UInt8)) (a : Option Addr) (m c : Nat), cv = .slice a m c ∧ r.length = m ∧ o.length + m ≤ n ∧ Bytes w (.slice a m c) r ∧ StW w v o wr ∧ L = o ++ dis r) (fun cv _ _ => lenV cv)
  case atStart => exact ⟨l.drop 0, [], a, n, c, rfl, hn, by simp, Q0.1, ⟨Below.refl _ _, OwnOf.nil _ _ _ _ _⟩, Q0.2⟩
  case round =>
    clear Q0
    obtain ⟨r, o, a, m, c, rfl, hm, hom, B, F, hT⟩ := hrel
    cases r with
    | nil =>
      obtain rfl : m = 0 := by rw [← hm]; rfl
      rw [dis_nil, List.append_nil] at hT
      have hown := F.ho
      rw [← hT] at hown
      have hb := F.hb
      clear F hT
      go_wp2
      go_ret
      exact ⟨_, rfl, hown, hb⟩
    | cons x r =>
      rw [List.length_cons] at hm
      have hm0 : 0 < m := by omega
      have hmi : (0 : Int) < (m : Int) := by omega
      obtain ⟨b, off, ha, hc⟩ := B.at 0 (by simp)
      have hix := fun w' => idx_0 (n := m) (c := c) ha hm0 w'
      have B1 := head_bytes B
      obtain ⟨a1, c1, s1, B1'⟩ := RowOf.to (P := Tryd.prog) (t := 22) elU8 B 1 (by omega) 1 rfl
      have hpl := push_le x
      obtain ⟨p, hp⟩ : ∃ p, p = min (1 + push x) m := ⟨_, rfl⟩
      obtain ⟨Y, hY⟩ : ∃ Y : Int, Y = (p : Int) := ⟨_, rfl⟩
      have hnx : nextI (x :: r) 0 = ((min (0 + 1 + push (x :: r)[0]) (x :: r).length : Nat) : Int) := next_in (x :: r) 0 (by simp)
      rw [List.getElem_cons_zero, List.length_cons, hm, Nat.zero_add, ← hp, ← hY] at hnx
      have cx := fun u (hu : Below w.heap.size w u) => lnext_any a c (x :: r) 0 (by decide) u (by rw [List.length_cons, hm]; exact B.below hu) (by rw [List.length_cons]; omega)
      rw [List.length_cons, hm] at cx
      obtain ⟨a2, c2, s2, B2⟩ := RowOf.between (P := Tryd.prog) (t := 22) elU8 B 1 p (by omega) (by omega) 1 Y rfl hY
      obtain ⟨a3, c3, s3, B3⟩ := RowOf.from (P := Tryd.prog) (t := 22) elU8 B p (by omega) Y hY
      have hd1 : ((x :: r).take p).drop 1 = r.take (push x) := by
        have := take_part (x :: r) 1 (push x)
        rw [List.length_cons, hm, ← hp] at this
        exact this
      have hd3 : (x :: r).drop p = r.drop (push x) := by
        rw [hp]
        by_cases hh : 1 + push x ≤ m
        · rw [Nat.min_eq_left hh, Nat.add_comm, List.drop_succ_cons]
        · rw [Nat.min_eq_right (by omega), List.drop_eq_nil_of_le (by rw [List.length_cons]; omega), List.drop_eq_nil_of_le (by omega)]
      rw [hd1] at B2
      rw [hd3] at B3
      rw [dis_cons, pu_push] at hT
      have hr3 : (r.drop (push x)).length = m - p := by rw [List.length_drop, hp]; omega
      obtain ⟨R3, hR3⟩ : ∃ R, R = r.drop (push x) := ⟨_, rfl⟩
      obtain ⟨D, hD⟩ : ∃ D, D = r.take (push x) := ⟨_, rfl⟩
      have hDl : D.length = p - 1 := by rw [hD, List.length_take, hp]; omega
      rw [← hR3] at B3 hT hr3
      rw [← hD] at B2 hT
      have hln : lnO x D = if nmP x.toNat = [] then printL [x] else if 0 < push x then nmP x.toNat ++ 32 :: printL D else nmP x.toNat := rfl
      have hp0 : nmP x.toNat = [] → push x = 0 := fun e => by
        rcases Nat.eq_zero_or_pos (push x) with h | h
        · exact h
        · exact absurd e ((nm_all x).2.2 h)
      have hu8 := u8_lt x
      have cn := fun u (hu : Below w.heap.size w u) => lname_any x.toNat (by omega) u (tabC Ht.out hu)
      rw [ln_nm x.toNat x.toNat_lt] at cn
      have cp := fun u => lpush_any x u
      have c1' : ∀ u, Bytes u (.slice a1 1 c1) [x] → Calls Tryd.prog 16 #[.slice a1 1 c1] u (fun e w' => e = .returned (str (printL [x])) ∧ Below u.heap.size u w') := fun u hu => xprint_any a1 c1 [x] u hu (by simp)
      have c1'' : ∀ u, Bytes u (.slice a 1 c) [x] → Calls Tryd.prog 16 #[.slice a 1 c] u (fun e w' => e = .returned (str (printL [x])) ∧ Below u.heap.size u w') := fun u hu => xprint_any a c [x] u hu (by simp)
      have c2' := fun u (hu : Bytes u (.slice a2 (p - 1) c2) D) => xprint_any a2 c2 D u (by rw [hDl]; exact hu) (by rw [hDl]; omega)
      rw [hDl] at c2'
      obtain ⟨A, hA⟩ : ∃ A, A = nmP x.toNat := ⟨_, rfl⟩
      rw [← hA] at hln hp0
      simp only [← hA] at cn
      have hAl : A.length ≤ 9 := by
        have key : (List.range 256).all (fun x => decide ((nmP x).length ≤ 9)) = true := by kernel_rfl
        have := List.all_eq_true.1 key x.toNat (List.mem_range.2 x.toNat_lt)
        rw [decide_eq_true_eq, ← hA] at this
        exact this
      have hPl : (printL D).length ≤ 70 := by
        have : (printL D).length = 2 * D.length + 2 := by simp [printL, hexL_len]
        rw [this, hDl]; omega
      obtain ⟨q, hq⟩ : ∃ q, q = push x := ⟨_, rfl⟩
      simp only [← hq] at cp hln hp0
      obtain ⟨PX, hPX⟩ : ∃ A, A = printL [x] := ⟨_, rfl⟩
      obtain ⟨PD, hPD⟩ : ∃ A, A = printL D := ⟨_, rfl⟩
      simp only [← hPX] at c1' c1'' hln
      simp only [← hPD] at c2' hln hPl
      obtain ⟨LN, hLN⟩ : ∃ L, L = lnO x D := ⟨_, rfl⟩
      rw [← hLN] at hln hT
      have HT : Hid (L = (o ++ [LN]) ++ dis R3) := Lib.hid (by rw [List.append_assoc]; exact hT)
      have hm3 : o.length + 1 + (m - p) ≤ n := by omega
      have hpm : m - p < m := by omega
      have Hc : Hid (∀ u, Below w.heap.size w u → u.cell? ⟨b, off, none⟩ = some (.int .u8 (x.toNat : Int))) := Lib.hid fun u hu => (hu.cell (World.block_lt_of_cell? w _ hc)).trans hc
      have Cx := Lib.hid cx
      have Cn := Lib.hid cn
      have Cp := Lib.hid cp
      have C1 := Lib.hid c1'
      have C1' := Lib.hid c1''
      have C2 := Lib.hid c2'
      have Hnx := Lib.hid hnx
      have HB1 := Lib.hid B1
      have HB1' := Lib.hid B1'
      have HB2 := Lib.hid B2
      have HB3 := Lib.hid B3
      have Hr3 := Lib.hid hr3
      obtain ⟨pa, pn, pc, rfl, hpn⟩ := st_form F.ho
      have Hpn := Lib.hid hpn
      have e1 := Hc.out _ F.hb
      clear cx cn cp c1' c1'' c2' hnx B B1 B1' B2 B3 hA hq hPX hPD hp hD hR3 hY hT hr3 hDl hd1 hd3 hpl hLN ha hc hm hpn
      by_cases hA0 : A = []
      · rw [if_pos hA0] at hln
        obtain rfl : q = 0 := hp0 hA0
        subst hA0
        subst hln
        go_wp2_with (first
          | (go_at_call 15; (with_reducible refine (Cx.out _ F.hb).mono ?_); rintro e w1 ⟨rfl, rfl⟩; rw [Hnx.out])
          | (go_at_call 12; (with_reducible refine (Cn.out _ F.hb).mono ?_); rintro e w2 ⟨rfl, b2⟩; have F2 := F.kept b2)
          | (go_at_call 16; (with_reducible (first | refine (C1.out _ (HB1'.out.below F2.hb)).mono ?_ | refine (C1'.out _ (HB1.out.below F2.hb)).mono ?_)); rintro e w3 ⟨rfl, b3⟩; have F3 := F2.kept b3; have e3 := Hc.out _ F3.hb; have F4 := F3.kept ((Below.refl _ _).alloc (Nat.le_refl _) (.cells #[.string ⟨LN.toArray⟩] 9)); have r4 := St_one w3 LN)
          | (go_at_call 17; (with_reducible refine (Cp.out _).mono ?_); rintro e w' ⟨rfl, rfl⟩)
          | (refine wpList_appB (o := ⟨some 35, _, _, _, _, _⟩) (by rfl) (.tmp 32) (.tmp 34) 23 (by rfl) elSt (fcell_one [LN]) (by rfl) F4.ho (by rfl) r4 F4.hb.size (by simp only [List.length_singleton]; omega) (by unfold maxLen; simp only [List.length_singleton]; omega) ?_; intro v5 w5 hv5 hg5 _; have F5 := F4.grew hg5 hv5))
        go_roundw
        case rel => exact ⟨R3, _, a3, m - p, c3, rfl, Hr3.out, by rw [List.length_append, List.length_singleton]; exact hm3, HB3.out, F5, HT.out⟩
        case measure => exact hpm
      · rw [if_neg hA0] at hln
        have hAb : (A == []) = false := by simp [hA0]
        by_cases h0 : 0 < q
        · rw [if_pos h0] at hln
          have hq0 : (0 : Int) < (q : Int) := by omega
          have ES : Hid ((⟨A.toArray⟩ ++ (⟨#[32]⟩ ++ ⟨PD.toArray⟩) : ByteArray) = ⟨LN.toArray⟩) := Lib.hid (by rw [hln]; have := str_cat2 A PD; unfold str at this; exact Value.string.inj this)
          clear hln
          go_wp2_with (first
            | (go_at_call 15; (with_reducible refine (Cx.out _ F.hb).mono ?_); rintro e w1 ⟨rfl, rfl⟩; rw [Hnx.out])
            | (go_at_call 12; (with_reducible refine (Cn.out _ F.hb).mono ?_); rintro e w2 ⟨rfl, b2⟩; have F2 := F.kept b2; have e3 := Hc.out _ F2.hb)
            | (go_at_call 17; (with_reducible refine (Cp.out _).mono ?_); rintro e w' ⟨rfl, rfl⟩)
            | (go_at_call 16; (with_reducible refine (C2.out _ (HB2.out.below F2.hb)).mono ?_); rintro e w3 ⟨rfl, b3⟩; have F3 := F2.kept b3; have F4 := F3.kept ((Below.refl _ _).alloc (Nat.le_refl _) (.cells #[.string ⟨LN.toArray⟩] 9)); have r4 := St_one w3 LN; rw [← ES.out] at F4 r4)
            | (refine wpList_appB (o := ⟨some 35, _, _, _, _, _⟩) (by rfl) (.tmp 32) (.tmp 34) 23 (by rfl) elSt (fcell_one [LN]) (by rfl) F4.ho (by rfl) r4 F4.hb.size (by simp only [List.length_singleton]; omega) (by unfold maxLen; simp only [List.length_singleton]; omega) ?_; intro v5 w5 hv5 hg5 _; have F5 := F4.grew hg5 hv5))
          go_roundw
          case rel => exact ⟨R3, _, a3, m - p, c3, rfl, Hr3.out, by rw [List.length_append, List.length_singleton]; exact hm3, HB3.out, F5, HT.out⟩
          case measure => exact hpm
        · rw [if_neg h0] at hln
          have hq0 : ¬ (0 : Int) < (q : Int) := by omega
          subst hln
          go_wp2_with (first
            | (go_at_call 15; (with_reducible refine (Cx.out _ F.hb).mono ?_); rintro e w1 ⟨rfl, rfl⟩; rw [Hnx.out])
            | (go_at_call 12; (with_reducible refine (Cn.out _ F.hb).mono ?_); rintro e w2 ⟨rfl, b2⟩; have F2 := F.kept b2; have e3 := Hc.out _ F2.hb; have F4 := F2.kept ((Below.refl _ _).alloc (Nat.le_refl _) (.cells #[.string ⟨LN.toArray⟩] 9)); have r4 := St_one w2 LN)
            | (go_at_call 17; (with_reducible refine (Cp.out _).mono ?_); rintro e w' ⟨rfl, rfl⟩)
            | (refine wpList_appB (o := ⟨some 35, _, _, _, _, _⟩) (by rfl) (.tmp 32) (.tmp 34) 23 (by rfl) elSt (fcell_one [LN]) (by rfl) F4.ho (by rfl) r4 F4.hb.size (by simp only [List.length_singleton]; omega) (by unfold maxLen; simp only [List.length_singleton]; omega) ?_; intro v5 w5 hv5 hg5 _; have F5 := F4.grew hg5 hv5))
          go_roundw
          case rel => exact ⟨R3, _, a3, m - p, c3, rfl, Hr3.out, by rw [List.length_append, List.length_singleton]; exact hm3, HB3.out, F5, HT.out⟩
          case measure => exact hpm
end Go.Proofs.YtkgfijdodbkkgaaDoor
