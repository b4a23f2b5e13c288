/- code.read. -/
import Derived.Test.YtkgfijdodbkkgaaDoorCln3
set_option linter.unusedSimpArgs false
set_option linter.unusedVariables false
namespace Go.Proofs.YtkgfijdodbkkgaaDoor
open Go.RowKit
def opF (nm : List UInt8) (sp : Bool) (y : Nat) : Bool := nmP y == nm && (decide (0 < puP y) == sp) && !(nm == [])
/-- what reading a line answers -/
def RdPost (s : List UInt8) (w : World) (e : Ending) (w' : World) : Prop := ∃ (a : Option Addr) (n c : Nat) (b : List UInt8) (q ok : Bool), e = .returned (.tuple #[.slice a n c, .bool q, .bool ok]) ∧ Bytes w' (.slice a n c) b ∧ (readP s = if ok = true then some (b, q) else none) ∧ Below w.heap.size w w'
theorem RdPost.bad {s : List UInt8} {w w' : World} (h : readP s = none) (hb : Below w.heap.size w w') : RdPost s w (.returned (.tuple #[.slice none 0 0, .bool false, .bool false])) w' := ⟨_, _, _, [], _, _, rfl, RowOf.nil b8 1 _, h, hb⟩
theorem By_one (w : World) (k : Nat) (h : k < 256) : Bytes (w.alloc (.cells #[.int .u8 (k : Int)] 5)) (.slice (some ⟨w.heap.size, 0, none⟩) 1 1) [UInt8.ofNat k] := by
  have := Row.built (f := b8) (size := 1) (fun _ => rfl) w 5 [UInt8.ofNat k] 1 rfl (by unfold maxLen; omega)
  have e : u8v (UInt8.ofNat k) = .int .u8 (k : Int) := by
    unfold u8v
    rw [UInt8.toNat_ofNat']
    congr 1; omega
  simp only [List.flatMap_cons, List.flatMap_nil, List.append_nil, b8, e] at this
  exact this
theorem By_own (w : World) (k : Nat) (h : k < 256) (B : Nat) (hB : B ≤ w.heap.size) : OwnOf b8 1 5 (w.alloc (.cells #[.int .u8 (k : Int)] 5)) B (.slice (some ⟨w.heap.size, 0, none⟩) 1 1) [UInt8.ofNat k] := by
  have e : u8v (UInt8.ofNat k) = .int .u8 (k : Int) := by
    unfold u8v
    rw [UInt8.toNat_ofNat']
    congr 1; omega
  have hb := Blk.new w 5 [Value.int .u8 (k : Int)]
  have hb2 : Blk 5 (w.alloc (.cells #[.int .u8 (k : Int)] 5)) w.heap.size ([UInt8.ofNat k].flatMap b8) := by
    simp only [List.flatMap_cons, List.flatMap_nil, List.append_nil, b8, e]
    exact hb
  exact hb2.own 1 (fun _ => rfl) rfl hB (by unfold maxLen; omega)
theorem parseR_len (L : List UInt8) (h : L.length ≤ 1048576) : (parseR L).length ≤ 1048576 := by
  unfold parseR
  split
  · rw [joinL_len, List.length_map, List.length_drop]; omega
  · simp
set_option maxHeartbeats 4000000 in
set_option maxRecDepth 100000 in
theorem read_any (s : List UInt8) (hs : s.length ≤ 1048576) (w : World) (hm : MaxHas w) : Calls Tryd.prog 9 #[.string ⟨s.toArray⟩] w (RdPost s w) := by
  have cc := cutb_any s (by omega) w hm
  have cps : ∀ u, Calls Tryd.prog 19 #[.string ⟨s.toArray⟩] u fun e w' => ∃ v, e = .returned (.tuple #[v, .int .i64 (parseE s)]) ∧ OwnOf b8 1 5 w' u.heap.size v (parseR s) ∧ Below u.heap.size u w' := fun u => parse_any ⟨s.toArray⟩ (by show s.length ≤ _; omega) u
  have hback := cutP_back s
  have hRd : readP s = if (cutP s).2.2 = false ∧ parseOk s = true then (match parseR s with | [x] => if nmP x.toNat = [] then some ([x], true) else none | _ => none) else match opP (opF (cutP s).1 (cutP s).2.2) with | none => none | some y => if puP y = 0 then some ([UInt8.ofNat y], true) else if parseOk (cutP s).2.1 = true ∧ (parseR (cutP s).2.1).length ≤ puP y then some (UInt8.ofNat y :: parseR (cutP s).2.1, decide ((parseR (cutP s).2.1).length = puP y)) else none := rfl
  obtain ⟨C, hC⟩ : ∃ C, C = cutP s := ⟨_, rfl⟩
  simp only [← hC] at cc hback hRd
  obtain ⟨nm, dt, sp⟩ := C
  dsimp only at cc hback hRd
  have hdl : dt.length ≤ 1048576 := by
    cases sp with
    | true => rw [if_pos rfl] at hback; have := congrArg List.length hback; rw [List.length_append, List.length_cons] at this; omega
    | false =>
      have h0 : dt = [] := by
        rcases idx_cut s with ⟨_, h2⟩ | ⟨i, _, h2⟩
        · rw [← hC] at h2; simp only [Prod.mk.injEq] at h2; exact h2.2.1
        · rw [← hC] at h2; simp only [Prod.mk.injEq] at h2; cases h2.2.2
      rw [h0]; simp
  have ct : ∀ u, Calls Tryd.prog 19 #[.string ⟨dt.toArray⟩] u fun e w' => ∃ v, e = .returned (.tuple #[v, .int .i64 (parseE dt)]) ∧ OwnOf b8 1 5 w' u.heap.size v (parseR dt) ∧ Below u.heap.size u w' := fun u => parse_any ⟨dt.toArray⟩ (by show dt.length ≤ _; omega) u
  have Cc := Lib.hid cc
  have Cps := Lib.hid cps
  have Ct := Lib.hid ct
  have HD := Lib.hid hdl
  clear cc cps ct hback hC hs hdl hm
  cases sp with
  | true =>
    have HR1 : Hid (readP s = match opP (opF nm true) with | none => none | some y => if puP y = 0 then some ([UInt8.ofNat y], true) else if parseOk dt = true ∧ (parseR dt).length ≤ puP y then some (UInt8.ofNat y :: parseR dt, decide ((parseR dt).length = puP y)) else none) := Lib.hid (by rw [hRd, if_neg (by simp)])
    clear hRd Cps
    go_enter Tryd.func9, Tryd.ntmps9
    go_wp2_with (go_at_call 18; (with_reducible refine Cc.out.mono ?_); rintro e w1 ⟨rfl, b1⟩)
    have Q0 : Below w.heap.size w w1 := b1
    go_loopw [40] (fun ix wr => ∃ k : Nat, k ≤ 256 ∧ ix = .int .i64 (k : Int) ∧ Below w.heap.size w wr ∧ ∀ y, y < k → opF nm true y = false) (fun ix _ => 256 - (intOf ix).toNat)
    case atStart => exact ⟨0, by omega, rfl, Q0, fun y hy => by omega⟩
    case round =>
      clear Q0 b1
      obtain ⟨k, hk, rfl, hb, hno⟩ := hrel
      have Hno := Lib.hid hno
      clear hno
      by_cases hlt : k < 256
      · have hki : (k : Int) < 256 := by omega
        have hw8 : IntKind.u8.wrap (k : Int) = (k : Int) := IntWalk.u8_in _ (by omega)
        have hwi : IntKind.i64.wrap ((k : Int) + 1) = ((k + 1 : Nat) : Int) := by rw [IntWalk.i64_in _ (by omega)]; omega
        have cp : ∀ u, Calls Tryd.prog 21 #[.int .u8 (k : Int)] u fun e w' => e = .returned (.int .i64 (puP k : Int)) ∧ Below u.heap.size u w' := fun u => cpush_any k (by omega) u
        have cn := fun u => name_any k (by omega) u
        have hf : opF nm true k = (nmP k == nm && (decide (0 < puP k) == true) && !(nm == [])) := rfl
        have hp0 : puP k ≤ 32 := by unfold puP; split <;> omega
        obtain ⟨q, hq⟩ : ∃ q, q = puP k := ⟨_, rfl⟩
        obtain ⟨A, hA⟩ : ∃ A, A = nmP k := ⟨_, rfl⟩
        simp only [← hq] at cp hf hp0
        simp only [← hA] at cn hf
        have Cp := Lib.hid cp
        have Cn := Lib.hid cn
        have Hq := Lib.hid hq
        have HA := Lib.hid hA
        clear cp cn hq hA
        by_cases h1 : A = nm
        · subst h1
          have hb1 : (A == A) = true := beq_self_eq_true A
          rw [hb1, Bool.true_and] at hf
          by_cases h0 : 0 < q
          · have hq0 : (0 : Int) < (q : Int) := by omega
            have hqz : ((q : Int) == 0) = false := beq_eq_false_iff_ne.2 (by omega)
            rw [decide_eq_true h0] at hf
            by_cases hA0 : A = []
            · subst hA0
              have hf2 : opF [] true k = false := by rw [hf]; rfl
              replace hf := hf2
              go_wp2_with (first
                | (rw [hw8])
                | (go_at_call 21; (with_reducible refine (Cp.out _).mono ?_); rintro e w2 ⟨rfl, b2⟩; have bb2 := Below.then hb b2)
                | (go_at_call 20; (with_reducible refine (Cn.out _).mono ?_); rintro e w3 ⟨rfl, b3⟩; have bb3 := Below.then bb2 b3))
              go_roundw
              case rel => exact ⟨k + 1, by omega, by go_num, bb3, fun y hy => by
                rcases Nat.lt_succ_iff_lt_or_eq.1 hy with h | rfl
                · exact Hno.out y h
                · exact hf⟩
              case measure => simp [intOf]; omega
            · have hAb : (A == []) = false := beq_eq_false_iff_ne.2 hA0
              rw [hAb] at hf
              replace hf : opF A true k = true := hf
              have hop : opP (opF A true) = some k := by
                have := find_first (opF A true) (List.range 256) k (by rw [List.length_range]; exact hlt) (fun j hj hjk => by rw [List.getElem_range]; exact Hno.out j hjk) (by rw [List.getElem_range]; exact hf)
                rw [List.getElem_range] at this
                exact this
              have hRk := HR1.out
              rw [hop] at hRk
              dsimp only at hRk
              rw [← Hq.out, if_neg (by omega)] at hRk
              have hEo : (parseOk dt = true) ↔ parseE dt = 0 := by unfold parseE; split <;> simp_all
              simp only [hEo] at hRk
              have ct := Ct.out
              obtain ⟨E, hE⟩ : ∃ E, E = parseE dt := ⟨_, rfl⟩
              obtain ⟨T, hT⟩ : ∃ T, T = parseR dt := ⟨_, rfl⟩
              have hTl : T.length ≤ 1048576 := by rw [hT]; exact parseR_len dt HD.out
              simp only [← hE, ← hT] at ct hRk
              obtain ⟨tl, htl⟩ : ∃ t, t = T.length := ⟨_, rfl⟩
              rw [← htl] at hRk hTl
              have Htl := Lib.hid htl.symm
              have Ct' := Lib.hid ct
              have HRk := Lib.hid hRk
              clear hop hEo hE hT ct hRk htl
              by_cases hE0 : E = 0
              · subst hE0
                have HRk2 : Hid (readP s = if tl ≤ q then some (UInt8.ofNat k :: T, decide (tl = q)) else none) := Lib.hid (by rw [HRk.out]; simp)
                clear HRk
                go_wp2_with (first
                  | (rw [hw8])
                  | (go_at_call 21; (with_reducible refine (Cp.out _).mono ?_); rintro e w2 ⟨rfl, b2⟩; have bb2 := Below.then hb b2)
                  | (go_at_call 20; (with_reducible refine (Cn.out _).mono ?_); rintro e w3 ⟨rfl, b3⟩; have bb3 := Below.then bb2 b3)
                  | (go_at_call 19; (with_reducible refine (Ct'.out _).mono ?_); rintro e w4 ⟨v4, rfl, o4, b4⟩; have bb4 := Below.then bb3 b4; obtain ⟨va, vc, rfl, _⟩ := o4.form' tl Htl.out; have V4 := o4.row; have bb5 := Below.then bb4 ((Below.refl _ _).alloc (Nat.le_refl _) (.cells #[.int .u8 (k : Int)] 5)); have V5 := RowOf.kept (f := b8) (size := 1) V4 ((Below.refl _ _).alloc (Nat.le_refl _) (.cells #[.int .u8 (k : Int)] 5)); have r5 := By_own w4 k (by omega) w.heap.size bb4.size)
                  | (refine wpList_appA (o := ⟨some 75, _, _, _, _, _⟩) (by rfl) (.tmp 73) (.tmp 74) 22 (by rfl) elU8 (by rfl) r5 (by rfl) V5 bb5.size (by rw [Htl.out]; simp only [List.length_singleton]; omega) (by rw [Htl.out]; simp only [List.length_singleton]; unfold maxLen; omega) ?_; intro v5 w5 hA5 hg5 _; have bb6 := bb5.grown hg5 bb5.size (fun j hj => r5.lt j hj); obtain ⟨xa, xc, rfl, _⟩ := hA5.form))
                go_ret3
                refine ⟨xa, _, xc, UInt8.ofNat k :: T, _, _, rfl, hA5.row, ?_, bb6⟩
                rw [HRk2.out]
                by_cases h : tl ≤ q
                · rw [if_pos h, if_pos (by simp; omega)]
                  congr 2
                  by_cases h2 : tl = q
                  · simp [h2]
                  · simp [h2]; omega
                · rw [if_neg h, if_neg (by simp; omega)]
              · have hEi : (E == 0) = false := beq_eq_false_iff_ne.2 hE0
                have HRk2 : Hid (readP s = none) := Lib.hid (by rw [HRk.out]; simp [hE0])
                clear HRk
                go_wp2_with (first
                  | (rw [hw8])
                  | (go_at_call 21; (with_reducible refine (Cp.out _).mono ?_); rintro e w2 ⟨rfl, b2⟩; have bb2 := Below.then hb b2)
                  | (go_at_call 20; (with_reducible refine (Cn.out _).mono ?_); rintro e w3 ⟨rfl, b3⟩; have bb3 := Below.then bb2 b3)
                  | (go_at_call 19; (with_reducible refine (Ct'.out _).mono ?_); rintro e w4 ⟨v4, rfl, o4, b4⟩; have bb4 := Below.then bb3 b4; obtain ⟨va, vc, rfl, _⟩ := o4.form' tl Htl.out; have V4 := o4.row; have bb5 := Below.then bb4 ((Below.refl _ _).alloc (Nat.le_refl _) (.cells #[.int .u8 (k : Int)] 5)); have V5 := RowOf.kept (f := b8) (size := 1) V4 ((Below.refl _ _).alloc (Nat.le_refl _) (.cells #[.int .u8 (k : Int)] 5)); have r5 := By_own w4 k (by omega) w.heap.size bb4.size)
                  | (refine wpList_appA (o := ⟨some 75, _, _, _, _, _⟩) (by rfl) (.tmp 73) (.tmp 74) 22 (by rfl) elU8 (by rfl) r5 (by rfl) V5 bb5.size (by rw [Htl.out]; simp only [List.length_singleton]; omega) (by rw [Htl.out]; simp only [List.length_singleton]; unfold maxLen; omega) ?_; intro v5 w5 hA5 hg5 _; have bb6 := bb5.grown hg5 bb5.size (fun j hj => r5.lt j hj); obtain ⟨xa, xc, rfl, _⟩ := hA5.form))
                go_ret3
                exact ⟨xa, _, xc, UInt8.ofNat k :: T, _, _, rfl, hA5.row, HRk2.out, bb6⟩
          · have hq0 : ¬ (0 : Int) < (q : Int) := by omega
            obtain rfl : q = 0 := by omega
            rw [decide_eq_false h0] at hf
            rw [show ((false == true) && !(A == [])) = false from rfl] at hf
            go_wp2_with (first
              | (rw [hw8])
              | (go_at_call 21; (with_reducible refine (Cp.out _).mono ?_); rintro e w2 ⟨rfl, b2⟩; have bb2 := Below.then hb b2)
              | (go_at_call 20; (with_reducible refine (Cn.out _).mono ?_); rintro e w3 ⟨rfl, b3⟩; have bb3 := Below.then bb2 b3))
            go_roundw
            case rel => exact ⟨k + 1, by omega, by go_num, bb3, fun y hy => by
              rcases Nat.lt_succ_iff_lt_or_eq.1 hy with h | rfl
              · exact Hno.out y h
              · exact hf⟩
            case measure => simp [intOf]; omega
        · have hb1 : (A == nm) = false := beq_eq_false_iff_ne.2 h1
          rw [hb1, Bool.false_and, Bool.false_and] at hf
          clear h1
          go_wp2_with (first
            | (rw [hw8])
            | (go_at_call 21; (with_reducible refine (Cp.out _).mono ?_); rintro e w2 ⟨rfl, b2⟩; have bb2 := Below.then hb b2)
            | (go_at_call 20; (with_reducible refine (Cn.out _).mono ?_); rintro e w3 ⟨rfl, b3⟩; have bb3 := Below.then bb2 b3))
          go_roundw
          case rel => exact ⟨k + 1, by omega, by go_num, bb3, fun y hy => by
            rcases Nat.lt_succ_iff_lt_or_eq.1 hy with h | rfl
            · exact Hno.out y h
            · exact hf⟩
          case measure => simp [intOf]; omega
      · obtain rfl : k = 256 := by omega
        have hR : readP s = none := by
          rw [HR1.out]
          have : opP (opF nm true) = none := by
            unfold opP
            rw [List.find?_eq_none]
            intro y hy
            rw [Hno.out y (List.mem_range.1 hy)]; simp
          rw [this]
        go_wp2_with fail
        go_ret3
        exact RdPost.bad hR hb
  | false =>
    have cps := Cps.out
    have hEo : (parseOk s = true) ↔ parseE s = 0 := by unfold parseE; split <;> simp_all
    have hRd' : readP s = if parseE s = 0 then (match parseR s with | [x] => if nmP x.toNat = [] then some ([x], true) else none | _ => none) else match opP (opF nm false) with | none => none | some y => if puP y = 0 then some ([UInt8.ofNat y], true) else if parseOk dt = true ∧ (parseR dt).length ≤ puP y then some (UInt8.ofNat y :: parseR dt, decide ((parseR dt).length = puP y)) else none := by
      rw [hRd]
      by_cases h : parseE s = 0
      · rw [if_pos h, if_pos ⟨rfl, hEo.2 h⟩]
      · rw [if_neg h, if_neg (fun e => h (hEo.1 e.2))]
    obtain ⟨E, hE⟩ : ∃ E, E = parseE s := ⟨_, rfl⟩
    obtain ⟨T, hT⟩ : ∃ T, T = parseR s := ⟨_, rfl⟩
    simp only [← hE, ← hT] at cps hRd'
    have Cp0 := Lib.hid cps
    clear hRd hEo hE hT cps Cps
    by_cases hE0 : E = 0
    · subst hE0
      rw [if_pos rfl] at hRd'
      clear Ct
      match T with
      | [x] =>
        dsimp only at hRd'
        have hu8 := u8_lt x
        have cn := fun u => name_any x.toNat (by omega) u
        obtain ⟨A, hA⟩ : ∃ A, A = nmP x.toNat := ⟨_, rfl⟩
        rw [← hA] at hRd'
        simp only [← hA] at cn
        have Cn := Lib.hid cn
        have HR := Lib.hid hRd'
        clear hA cn hRd'
        by_cases hA0 : A = []
        · subst hA0
          go_enter Tryd.func9, Tryd.ntmps9
          go_wp2_with (first
            | (go_at_call 18; (with_reducible refine Cc.out.mono ?_); rintro e w1 ⟨rfl, b1⟩)
            | (go_at_call 19; (with_reducible refine (Cp0.out _).mono ?_); rintro e w2 ⟨v2, rfl, o2, b2⟩; have bb2 := Below.then b1 b2; obtain ⟨va, vc, rfl, _⟩ := o2.form' 1 rfl; have V2 := o2.row; obtain ⟨ob, oo, oe, oc⟩ := Bytes.at V2 0 (by simp); subst oe; rw [List.getElem_cons_zero, Nat.add_zero] at oc)
            | (go_at_call 20; (with_reducible refine (Cn.out _).mono ?_); rintro e w3 ⟨rfl, b3⟩))
          go_ret3
          exact ⟨_, _, _, [x], true, true, rfl, V2.below b3, by rw [HR.out]; rfl, Below.then bb2 b3⟩
        · have hAb : (A == []) = false := beq_eq_false_iff_ne.2 hA0
          have HR2 : Hid (readP s = none) := Lib.hid (by rw [HR.out, if_neg hA0])
          go_enter Tryd.func9, Tryd.ntmps9
          go_wp2_with (first
            | (go_at_call 18; (with_reducible refine Cc.out.mono ?_); rintro e w1 ⟨rfl, b1⟩)
            | (go_at_call 19; (with_reducible refine (Cp0.out _).mono ?_); rintro e w2 ⟨v2, rfl, o2, b2⟩; have bb2 := Below.then b1 b2; obtain ⟨va, vc, rfl, _⟩ := o2.form' 1 rfl; have V2 := o2.row; obtain ⟨ob, oo, oe, oc⟩ := Bytes.at V2 0 (by simp); subst oe; rw [List.getElem_cons_zero, Nat.add_zero] at oc)
            | (go_at_call 20; (with_reducible refine (Cn.out _).mono ?_); rintro e w3 ⟨rfl, b3⟩))
          go_ret3
          exact ⟨_, _, _, [x], true, false, rfl, V2.below b3, HR2.out, Below.then bb2 b3⟩
      | [] =>
        have HR2 : Hid (readP s = none) := Lib.hid hRd'
        clear hRd'
        go_enter Tryd.func9, Tryd.ntmps9
        go_wp2_with (first
          | (go_at_call 18; (with_reducible refine Cc.out.mono ?_); rintro e w1 ⟨rfl, b1⟩)
          | (go_at_call 19; (with_reducible refine (Cp0.out _).mono ?_); rintro e w2 ⟨v2, rfl, o2, b2⟩; have bb2 := Below.then b1 b2; obtain ⟨va, vc, rfl, _⟩ := o2.form' 0 rfl; have V2 := o2.row))
        go_ret3
        exact ⟨_, _, _, [], true, false, rfl, V2, HR2.out, bb2⟩
      | x :: y :: r =>
        have HR2 : Hid (readP s = none) := Lib.hid hRd'
        obtain ⟨vn, hvn⟩ : ∃ n, n = r.length + 1 + 1 := ⟨_, rfl⟩
        have hv1 : ((vn : Int) == 1) = false := beq_eq_false_iff_ne.2 (by omega)
        have Hvn : Hid ((x :: y :: r).length = vn) := Lib.hid (by rw [hvn]; rfl)
        clear hRd' hvn
        go_enter Tryd.func9, Tryd.ntmps9
        go_wp2_with (first
          | (go_at_call 18; (with_reducible refine Cc.out.mono ?_); rintro e w1 ⟨rfl, b1⟩)
          | (go_at_call 19; (with_reducible refine (Cp0.out _).mono ?_); rintro e w2 ⟨v2, rfl, o2, b2⟩; have bb2 := Below.then b1 b2; obtain ⟨va, vc, rfl, _⟩ := o2.form' vn Hvn.out; have V2 := o2.row))
        go_ret3
        exact ⟨_, _, _, x :: y :: r, true, false, rfl, V2, HR2.out, bb2⟩
    · rw [if_neg hE0] at hRd'
      have HR1 := Lib.hid hRd'
      have hEi : (E == 0) = false := beq_eq_false_iff_ne.2 hE0
      clear hRd'
      go_enter Tryd.func9, Tryd.ntmps9
      go_upto_region 6 with (first
        | (go_at_call 18; (with_reducible refine Cc.out.mono ?_); rintro e w1 ⟨rfl, b1⟩)
        | (go_at_call 19; (with_reducible refine (Cp0.out _).mono ?_); rintro e w2 ⟨v2, rfl, o2, b2⟩; have bb2 := Below.then b1 b2))
      clear Cp0 Ct o2
      go_wp2_with fail
      have Q0 : Below w.heap.size w w2 := bb2
      go_loopw [40] (fun ix wr => ∃ k : Nat, k ≤ 256 ∧ ix = .int .i64 (k : Int) ∧ Below w.heap.size w wr ∧ ∀ y, y < k → opF nm false y = false) (fun ix _ => 256 - (intOf ix).toNat)
      case atStart => exact ⟨0, by omega, rfl, Q0, fun y hy => by omega⟩
      case round =>
        clear Q0 bb2 b1 b2
        obtain ⟨k, hk, rfl, hb, hno⟩ := hrel
        have Hno := Lib.hid hno
        clear hno
        by_cases hlt : k < 256
        · have hki : (k : Int) < 256 := by omega
          have hw8 : IntKind.u8.wrap (k : Int) = (k : Int) := IntWalk.u8_in _ (by omega)
          have hwi : IntKind.i64.wrap ((k : Int) + 1) = ((k + 1 : Nat) : Int) := by rw [IntWalk.i64_in _ (by omega)]; omega
          have cp : ∀ u, Calls Tryd.prog 21 #[.int .u8 (k : Int)] u fun e w' => e = .returned (.int .i64 (puP k : Int)) ∧ Below u.heap.size u w' := fun u => cpush_any k (by omega) u
          have cn := fun u => name_any k (by omega) u
          have hf : opF nm false k = (nmP k == nm && (decide (0 < puP k) == false) && !(nm == [])) := rfl
          have hp0 : puP k ≤ 32 := by unfold puP; split <;> omega
          obtain ⟨q, hq⟩ : ∃ q, q = puP k := ⟨_, rfl⟩
          obtain ⟨A, hA⟩ : ∃ A, A = nmP k := ⟨_, rfl⟩
          simp only [← hq] at cp hf hp0
          simp only [← hA] at cn hf
          have Cp := Lib.hid cp
          have Cn := Lib.hid cn
          have Hq := Lib.hid hq
          have HA := Lib.hid hA
          clear cp cn hq hA
          by_cases h1 : A = nm
          · subst h1
            have hb1 : (A == A) = true := beq_self_eq_true A
            rw [hb1, Bool.true_and] at hf
            by_cases h0 : 0 < q
            · have hq0 : (0 : Int) < (q : Int) := by omega
              have hqz : ((q : Int) == 0) = false := beq_eq_false_iff_ne.2 (by omega)
              rw [decide_eq_true h0] at hf
              rw [show ((true == false) && !(A == [])) = false from rfl] at hf
              go_wp2_with (first
                | (rw [hw8])
                | (go_at_call 21; (with_reducible refine (Cp.out _).mono ?_); rintro e w2 ⟨rfl, b2⟩; have bb2 := Below.then hb b2)
                | (go_at_call 20; (with_reducible refine (Cn.out _).mono ?_); rintro e w3 ⟨rfl, b3⟩; have bb3 := Below.then bb2 b3))
              go_roundw
              case rel => exact ⟨k + 1, by omega, by go_num, bb3, fun y hy => by
                rcases Nat.lt_succ_iff_lt_or_eq.1 hy with h | rfl
                · exact Hno.out y h
                · exact hf⟩
              case measure => simp [intOf]; omega
            · have hq0 : ¬ (0 : Int) < (q : Int) := by omega
              obtain rfl : q = 0 := by omega
              rw [decide_eq_false h0] at hf
              by_cases hA0 : A = []
              · subst hA0
                have hf2 : opF [] false k = false := by rw [hf]; rfl
                replace hf := hf2
                go_wp2_with (first
                  | (rw [hw8])
                  | (go_at_call 21; (with_reducible refine (Cp.out _).mono ?_); rintro e w2 ⟨rfl, b2⟩; have bb2 := Below.then hb b2)
                  | (go_at_call 20; (with_reducible refine (Cn.out _).mono ?_); rintro e w3 ⟨rfl, b3⟩; have bb3 := Below.then bb2 b3))
                go_roundw
                case rel => exact ⟨k + 1, by omega, by go_num, bb3, fun y hy => by
                  rcases Nat.lt_succ_iff_lt_or_eq.1 hy with h | rfl
                  · exact Hno.out y h
                  · exact hf⟩
                case measure => simp [intOf]; omega
              · have hAb : (A == []) = false := beq_eq_false_iff_ne.2 hA0
                rw [hAb] at hf
                replace hf : opF A false k = true := hf
                have hop : opP (opF A false) = some k := by
                  have := find_first (opF A false) (List.range 256) k (by rw [List.length_range]; exact hlt) (fun j hj hjk => by rw [List.getElem_range]; exact Hno.out j hjk) (by rw [List.getElem_range]; exact hf)
                  rw [List.getElem_range] at this
                  exact this
                have hRk := HR1.out
                rw [hop] at hRk
                dsimp only at hRk
                rw [← Hq.out, if_pos rfl] at hRk
                clear hop
                go_wp2_with (first
                  | (rw [hw8])
                  | (go_at_call 21; (with_reducible refine (Cp.out _).mono ?_); rintro e w2 ⟨rfl, b2⟩; have bb2 := Below.then hb b2)
                  | (go_at_call 20; (with_reducible refine (Cn.out _).mono ?_); rintro e w3 ⟨rfl, b3⟩; have bb3 := Below.then bb2 b3))
                go_ret3
                exact ⟨_, _, _, [UInt8.ofNat k], true, true, rfl, By_one w3 k (by omega), hRk, Below.then bb3 ((Below.refl _ _).alloc (Nat.le_refl _) _)⟩
          · have hb1 : (A == nm) = false := beq_eq_false_iff_ne.2 h1
            rw [hb1, Bool.false_and, Bool.false_and] at hf
            clear h1
            go_wp2_with (first
              | (rw [hw8])
              | (go_at_call 21; (with_reducible refine (Cp.out _).mono ?_); rintro e w2 ⟨rfl, b2⟩; have bb2 := Below.then hb b2)
              | (go_at_call 20; (with_reducible refine (Cn.out _).mono ?_); rintro e w3 ⟨rfl, b3⟩; have bb3 := Below.then bb2 b3))
            go_roundw
            case rel => exact ⟨k + 1, by omega, by go_num, bb3, fun y hy => by
              rcases Nat.lt_succ_iff_lt_or_eq.1 hy with h | rfl
              · exact Hno.out y h
              · exact hf⟩
            case measure => simp [intOf]; omega
        · obtain rfl : k = 256 := by omega
          have hR : readP s = none := by
            rw [HR1.out]
            have : opP (opF nm false) = none := by
              unfold opP
              rw [List.find?_eq_none]
              intro y hy
              rw [Hno.out y (List.mem_range.1 hy)]; simp
            rw [this]
          go_wp2_with fail
          go_ret3
          exact RdPost.bad hR hb
end Go.Proofs.YtkgfijdodbkkgaaDoor
