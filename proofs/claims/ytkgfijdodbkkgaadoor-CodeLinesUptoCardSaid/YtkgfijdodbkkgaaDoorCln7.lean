/- The reference's LAssemble. -/
import Derived.Test.YtkgfijdodbkkgaaDoorCln6
import Derived.Test.YtkgfijdodbkkgaaDoorCln4
set_option linter.unusedSimpArgs false
set_option linter.unusedVariables false
namespace Go.Proofs.YtkgfijdodbkkgaaDoor
open Go.RowKit
def opG (nm : List UInt8) (y : Nat) : Bool := nmP y == nm
theorem parseR_le (L : List UInt8) : (parseR L).length ≤ L.length := by
  unfold parseR
  split
  · rw [joinL_len, List.length_map, List.length_drop]; omega
  · simp
theorem cut_len (s : List UInt8) : (cutP s).1.length + (cutP s).2.1.length ≤ s.length ∧ ((cutP s).2.2 = false → (cutP s).2.1 = []) := by
  rcases idx_cut s with ⟨_, h⟩ | ⟨i, _, h⟩
  · rw [h]; exact ⟨by simp, fun _ => rfl⟩
  · rw [h]; exact ⟨by simp only [List.length_take, List.length_drop]; omega, fun e => by cases e⟩
theorem may_len (s : List UInt8) : (mayP s).length ≤ s.length + 1 := by
  have h1 := (cut_len s).1
  have h2 := parseR_le (cutP s).1
  have h3 := parseR_le (cutP s).2.1
  unfold mayP
  split
  · omega
  · rw [List.length_append]
    have h4 : ∀ o : Option Nat, (match o with | none => ([] : List UInt8) | some y => [UInt8.ofNat y]).length ≤ 1 := by intro o; cases o <;> simp
    have h5 : (if (cutP s).2.2 = true then parseR (cutP s).2.1 else []).length ≤ (cutP s).2.1.length := by
      split
      · exact h3
      · simp
    refine Nat.le_trans (Nat.add_le_add (h4 _) h5) ?_
    omega
/-- what is out so far -/
def LaR (ls : List (List UInt8)) (k : Nat) (o : List UInt8) : Prop := ls.flatMap mayP = o ++ (ls.drop k).flatMap mayP ∧ o.length + ((ls.drop k).map fun l => l.length + 1).sum ≤ 1048576
theorem LaR.step {ls : List (List UInt8)} {k : Nat} {o : List UInt8} (h : LaR ls k o) (hk : k < ls.length) : LaR ls (k + 1) (o ++ mayP ls[k]) ∧ o.length + (mayP ls[k]).length ≤ 1048576 ∧ o.length + ls[k].length + 1 ≤ 1048576 := by
  obtain ⟨h1, h2⟩ := h
  rw [← List.getElem_cons_drop hk] at h1 h2
  rw [List.flatMap_cons] at h1
  rw [List.map_cons, List.sum_cons] at h2
  have := may_len ls[k]
  refine ⟨⟨by rw [h1, List.append_assoc], by rw [List.length_append]; omega⟩, by omega, by omega⟩
set_option maxHeartbeats 8000000 in
set_option maxRecDepth 100000 in
theorem lassemble_any (a : Option Addr) (n c : Nat) (ls : List (List UInt8)) (hn : ls.length = n) (hN : n ≤ 1048576) (hs : (ls.map fun l => l.length + 1).sum ≤ 1048576) (w : World) (h : RowOf fcell 1 w (.slice a n c) ls) (hm : MaxHas w) (ht : Lib.TabIs Tryd.prog w "strings.asciiSpace" .u8 Lib.asciiSpaceTab) :
    Calls Tryd.prog 5 #[.slice a n c] w (AsPost (lasmP ls) w) := by
  have Hn := Lib.hid hn
  have H := Lib.hid h
  have Hm := Lib.hid hm
  have Ht := Lib.hid ht
  have Q0 : LaR ls 0 [] := ⟨rfl, by simpa using hs⟩
  clear h hn hm ht
  go_enter Tryd.func5, Tryd.ntmps5
  go_wp2_with fail
  go_loopw [4, 17] (fun v ix wr => ∃ (k : Nat) (o : List UInt8), k ≤ n ∧ ix = .int .i64 (k : Int) ∧ OwnOf b8 1 5 wr w.heap.size v o ∧ Below w.heap.size w wr ∧ LaR ls k o) (fun _ ix _ => n - (intOf ix).toNat)
  case atStart => exact ⟨0, [], by omega, rfl, OwnOf.nil _ _ _ _ _, Below.refl _ _, Q0⟩
  case round =>
    clear Q0
    obtain ⟨k, o, hk, rfl, O, hb, hL⟩ := hrel
    obtain ⟨wo, rfl⟩ : ∃ x, x = wr := ⟨wr, rfl⟩
    by_cases hlt : k < n
    · have hki : (k : Int) < (n : Int) := by omega
      have hil : k < ls.length := by rw [Hn.out]; exact hlt
      obtain ⟨b1, o1, rfl, hc⟩ := RowOf.cells (f := fcell) (size := 1) (fun _ => rfl) (H.out.below hb) k hil
      have hc0 := hc 0 _ rfl
      rw [Nat.mul_one, Nat.add_zero] at hc0
      have hwi : IntKind.i64.wrap ((k : Int) + 1) = ((k + 1 : Nat) : Int) := by rw [IntWalk.i64_in _ (by omega)]; omega
      obtain ⟨hL2, hol, hsl⟩ := hL.step hil
      obtain ⟨s, hs⟩ : ∃ s, s = ls[k] := ⟨_, rfl⟩
      rw [← hs] at hc0 hL2 hol hsl
      have c2 := fun u (hu : Below w.heap.size w u) => two_any s (by omega) u (Hm.out.below hu)
      have hcl := cut_len s
      have hmay : mayP s = if parseE (cutP s).1 = 0 then parseR (cutP s).1 else (match opP (opG (cutP s).1) with | none => [] | some y => [UInt8.ofNat y]) ++ (if (cutP s).2.2 = true then parseR (cutP s).2.1 else []) := by
        have hEo : (parseOk (cutP s).1 = true) ↔ parseE (cutP s).1 = 0 := by unfold parseE; split <;> simp_all
        by_cases h : parseE (cutP s).1 = 0
        · rw [if_pos h]; unfold mayP; rw [if_pos (hEo.2 h)]
        · rw [if_neg h]; unfold mayP; rw [if_neg (fun e => h (hEo.1 e))]; rfl
      obtain ⟨C, hC⟩ : ∃ C, C = cutP s := ⟨_, rfl⟩
      rw [← hC] at hcl hmay
      obtain ⟨nm, dt, sp⟩ := C
      dsimp only at hcl hmay
      have cp : ∀ u, Calls Tryd.prog 11 #[.string ⟨nm.toArray⟩] u fun e w' => ∃ v, e = .returned (.tuple #[v, .int .i64 (parseE nm)]) ∧ OwnOf b8 1 5 w' u.heap.size v (parseR nm) ∧ Below u.heap.size u w' := fun u => xparse_any ⟨nm.toArray⟩ (by show nm.length ≤ _; omega) u
      have ct : ∀ u, Calls Tryd.prog 11 #[.string ⟨dt.toArray⟩] u fun e w' => ∃ v, e = .returned (.tuple #[v, .int .i64 (parseE dt)]) ∧ OwnOf b8 1 5 w' u.heap.size v (parseR dt) ∧ Below u.heap.size u w' := fun u => xparse_any ⟨dt.toArray⟩ (by show dt.length ≤ _; omega) u
      have hTle := parseR_le nm
      have hDle := parseR_le dt
      obtain ⟨MS, hMS⟩ : ∃ M, M = mayP s := ⟨_, rfl⟩
      obtain ⟨E, hE⟩ : ∃ E, E = parseE nm := ⟨_, rfl⟩
      obtain ⟨T, hT⟩ : ∃ T, T = parseR nm := ⟨_, rfl⟩
      obtain ⟨E2, hE2⟩ : ∃ E, E = parseE dt := ⟨_, rfl⟩
      obtain ⟨D, hD⟩ : ∃ T, T = parseR dt := ⟨_, rfl⟩
      obtain ⟨tl, htl⟩ : ∃ t, t = T.length := ⟨_, rfl⟩
      obtain ⟨dl, hdl⟩ : ∃ t, t = D.length := ⟨_, rfl⟩
      simp only [← hE, ← hT] at cp
      simp only [← hE2, ← hD] at ct
      rw [← hMS] at hmay hL2 hol
      rw [← hE, ← hT, ← hD] at hmay
      rw [← hT] at hTle
      rw [← hD] at hDle
      have HTl := Lib.hid htl.symm
      have HDl := Lib.hid hdl.symm
      have HLa := Lib.hid hL2
      have Cp := Lib.hid cp
      have Ct := Lib.hid ct
      have hol2 : o.length + tl + 1 ≤ 1048576 := by omega
      have hol3 : o.length + 1 + dl + 1 ≤ 2097152 := by omega
      change wo.cell? _ = some (Value.string ⟨s.toArray⟩) at hc0
      obtain ⟨oa, on, oc, rfl, hon⟩ := by_form O
      have Hon := Lib.hid hon
      have hS : Hid ((nm, dt, sp) = cutP s) := Lib.hid hC
      clear hc hs hil cp ct hMS hE hT hE2 hD htl hdl hL2 hon hL
      cases sp with
      | false =>
        obtain ⟨X, hX⟩ : ∃ X : List UInt8, X = [] := ⟨_, rfl⟩
        have HM : Hid (MS = if E = 0 then T else (match opP (opG nm) with | none => [] | some y => [UInt8.ofNat y]) ++ X) := Lib.hid (by rw [hmay, hX]; rfl)
        have HX := Lib.hid hX
        clear hmay hX
        have htw : twoP s = [nm] := by unfold twoP; rw [← hC]; rfl
        rw [htw] at c2
        have C2 := Lib.hid c2
        clear c2 htw hC
        go_upto_region 6 with (first
          | (go_at_call 10; (with_reducible refine (C2.out _ hb).mono ?_); rintro e w2 ⟨fc, rfl, b2, r2⟩))
        have bb2 := Below.then hb b2
        have O2 := O.kept b2
        have hg2 : wo.heap.size < w2.heap.size := by
          obtain ⟨b, off, e, hc⟩ := RowOf.cells (f := fcell) (size := 1) (fun _ => rfl) r2 0 (by simp)
          simp only [Option.some.injEq, Addr.mk.injEq, and_true] at e
          obtain ⟨rfl, rfl⟩ := e
          exact World.block_lt_of_cell? w2 _ (hc 0 _ rfl)
        have q0 : ∀ u, Below w2.heap.size w2 u → u.cell? ⟨wo.heap.size, 0, none⟩ = some (.string ⟨nm.toArray⟩) := fun u hu => by
          obtain ⟨b, off, e, hc⟩ := RowOf.cells (f := fcell) (size := 1) (fun _ => rfl) (RowOf.kept (f := fcell) (size := 1) r2 hu) 0 (by simp)
          simp only [Option.some.injEq, Addr.mk.injEq, and_true] at e
          obtain ⟨rfl, rfl⟩ := e
          have := hc 0 _ rfl
          simpa using this
        have Q0 := Lib.hid q0
        have m0 := q0 w2 (Below.refl _ _)
        obtain ⟨g, hg⟩ : ∃ g, g = wo.heap.size := ⟨_, rfl⟩
        have HGo : Hid (∀ kk, (Value.slice oa on oc).ownBlock = some kk → kk < g) := Lib.hid fun kk hkk => by rw [hg]; exact (World.ownsRow.lt O kk hkk).2
        simp only [← hg] at m0 Q0 ⊢
        clear C2 O b2 r2 q0 hg hg2 hb
        go_upto_region 7 with (first
          | (go_at_call 11; (with_reducible refine (Cp.out _).mono ?_); rintro e w3 ⟨v3, rfl, o3, b3⟩))
        have bb3 := Below.then bb2 b3
        have O3 := O2.kept b3
        obtain ⟨va, vc, rfl, _⟩ := o3.form' tl HTl.out
        have V3 := o3.row
        clear O2 Cp m0 o3
        by_cases hE0 : E = 0
        · subst hE0
          have hMS : Hid (MS = T) := Lib.hid (by rw [HM.out, if_pos rfl])
          clear HM
          go_wp2_with (first
            | (refine wpList_appA (o := ⟨some 34, _, _, _, _, _⟩) (by rfl) (.tmp 32) (.tmp 33) 22 (by rfl) elU8 (by rfl) O3 (by rfl) V3 bb3.size (by have h1 := HTl.out; omega) (by unfold maxLen; have h1 := HTl.out; omega) ?_; intro v9 w9 hA9 hg9 _; have bb9 := bb3.grown hg9 bb3.size (fun j hj => O3.lt j hj)))
          go_roundw
          case rel => exact ⟨k + 1, _, by omega, by go_num, hA9, bb9, by rw [← hMS.out]; exact HLa.out⟩
          case measure => simp [intOf]; omega
        · have hEi : (E == 0) = false := beq_eq_false_iff_ne.2 hE0
          have HM2 : Hid (MS = (match opP (opG nm) with | none => [] | some y => [UInt8.ofNat y]) ++ X) := Lib.hid (by rw [HM.out, if_neg hE0])
          clear HM V3
          go_wp2_with fail
          have Q00 : Below w3.heap.size w3 w3 := Below.refl _ _
          go_loopw [4, 35] (fun v ix wq => v = .slice oa on oc ∧ ∃ y : Nat, y ≤ 256 ∧ ix = .int .i64 (y : Int) ∧ Below w3.heap.size w3 wq ∧ ∀ z, z < y → opG nm z = false) (fun _ ix _ => 256 - (intOf ix).toNat)
          case atStart => exact ⟨rfl, 0, by omega, rfl, Q00, fun y hy => by omega⟩
          case round =>
            clear Q00
            obtain ⟨rfl, y, hy, rfl, hbq, hno⟩ := hrel
            have Hno := Lib.hid hno
            clear hno
            by_cases hlty : y < 256
            · have hyi : (y : Int) < 256 := by omega
              have hw8 : IntKind.u8.wrap (y : Int) = (y : Int) := IntWalk.u8_in _ (by omega)
              have hwy : IntKind.i64.wrap ((y : Int) + 1) = ((y + 1 : Nat) : Int) := by rw [IntWalk.i64_in _ (by omega)]; omega
              have cl := fun u (hu : Below w.heap.size w u) => lname_any y (by omega) u (tabC Ht.out hu)
              rw [ln_nm y hlty] at cl
              have hf : opG nm y = (nmP y == nm) := rfl
              obtain ⟨A, hA⟩ : ∃ A, A = nmP y := ⟨_, rfl⟩
              rw [← hA] at hf
              simp only [← hA] at cl
              have Cl := Lib.hid cl
              clear cl hA
              have bb4 := Below.then bb3 hbq
              have O4 := O3.kept hbq
              have z0 := fun u : Ext wr => Q0.out u.val (Below.then b3 (Below.then hbq u.bel))
              by_cases h1 : A = nm
              · subst h1
                have hb1 : (A == A) = true := beq_self_eq_true A
                go_upto_region 12 with fail
                refine wp_region_typed wr 7 (by kernel_rfl) (by kernel_rfl) (Below.refl _ _) ?_; simp only [List.take_succ_cons, List.take_zero, List.take_nil]
                iterate 2 (refine wpX_step (by rfl) (fun K hK => ?_); go_simp; first | (refine hK _ ?_; clear hK K) | (apply Exists.intro; refine ⟨fun _ => ?_, hK _ ?_⟩; fail; clear hK K))
                refine wpX_eq (.string ⟨A.toArray⟩) (fun w7 hw7 => ?_) ?_
                · simp only [relOf, List.filter_nil, forallRel]
                  refine ⟨rfl, ?_⟩
                  go_simp
                  refine (Cl.out w7 (Below.then bb4 hw7)).mono ?_
                  rintro e w8 ⟨rfl, b8⟩
                  exact ⟨_, rfl, rfl, b8⟩
                iterate 4 (refine wpX_step (by rfl) (fun K hK => ?_); go_simp; first | (refine hK _ ?_; clear hK K) | (apply Exists.intro; refine ⟨fun _ => ?_, hK _ ?_⟩; fail; clear hK K))
                refine wpX_nil ?_
                intro u2 hb2
                change forallRel u2 [] _ _
                simp only [forallRel, List.drop_succ_cons, List.drop_zero, List.drop_nil]
                have bb5 := Below.then bb4 hb2
                have O5 := O4.kept hb2
                clear z0
                try simp only [Act.put, List.setIfInBounds_toArray, List.set_cons_zero, List.set_cons_succ]
                have hop : opP (opG A) = some y := by
                  have := find_first (opG A) (List.range 256) y (by rw [List.length_range]; exact hlty) (fun j hj hjk => by rw [List.getElem_range]; exact Hno.out j hjk) (by rw [List.getElem_range, hf]; exact hb1)
                  rw [List.getElem_range] at this
                  exact this
                have hMS : Hid (o ++ MS = (o ++ [UInt8.ofNat y]) ++ X) := Lib.hid (by rw [HM2.out, hop, List.append_assoc])
                clear HM2 hop
                have r6 := By_one u2 y hlty
                have bb6 := Below.then bb5 ((Below.refl _ _).alloc (Nat.le_refl _) (.cells #[.int .u8 (y : Int)] 5))
                have O6 := O5.kept ((Below.refl _ _).alloc (Nat.le_refl _) (.cells #[.int .u8 (y : Int)] 5))
                go_wp2_with (first
                  | (rw [hw8])
                  | (refine wpList_appA (o := ⟨some 49, _, _, _, _, _⟩) (by rfl) (.tmp 45) (.tmp 48) 22 (by rfl) elU8 (by rfl) O6 (by rfl) r6 bb6.size (by simp only [List.length_singleton]; omega) (by unfold maxLen; simp only [List.length_singleton]; omega) ?_; intro v9 w9 hA9 hg9 _; have bb9 := bb6.grown hg9 bb6.size (fun j hj => O6.lt j hj)))
                go_roundw
                case rel => exact ⟨k + 1, _, by omega, by go_num, hA9, bb9, by have := HLa.out; rw [hMS.out, HX.out, List.append_nil] at this; exact this⟩
                case measure => simp [intOf]; omega
              · have hb1 : (A == nm) = false := beq_eq_false_iff_ne.2 h1
                rw [hb1] at hf
                clear h1
                go_upto_region 12 with fail
                refine wp_region_typed wr 7 (by kernel_rfl) (by kernel_rfl) (Below.refl _ _) ?_; simp only [List.take_succ_cons, List.take_zero, List.take_nil]
                iterate 2 (refine wpX_step (by rfl) (fun K hK => ?_); go_simp; first | (refine hK _ ?_; clear hK K) | (apply Exists.intro; refine ⟨fun _ => ?_, hK _ ?_⟩; fail; clear hK K))
                refine wpX_eq (.string ⟨A.toArray⟩) (fun w7 hw7 => ?_) ?_
                · simp only [relOf, List.filter_nil, forallRel]
                  refine ⟨rfl, ?_⟩
                  go_simp
                  refine (Cl.out w7 (Below.then bb4 hw7)).mono ?_
                  rintro e w8 ⟨rfl, b8⟩
                  exact ⟨_, rfl, rfl, b8⟩
                iterate 4 (refine wpX_step (by rfl) (fun K hK => ?_); go_simp; first | (refine hK _ ?_; clear hK K) | (apply Exists.intro; refine ⟨fun _ => ?_, hK _ ?_⟩; fail; clear hK K))
                refine wpX_nil ?_
                intro u2 hb2
                change forallRel u2 [] _ _
                simp only [forallRel, List.drop_succ_cons, List.drop_zero, List.drop_nil]
                have bb5 := Below.then bb4 hb2
                have O5 := O4.kept hb2
                clear z0
                try simp only [Act.put, List.setIfInBounds_toArray, List.set_cons_zero, List.set_cons_succ]
                go_wp2_with fail
                go_roundw
                case rel => exact ⟨rfl, y + 1, by omega, by go_num, Below.then hbq hb2, fun z hz => by
                  rcases Nat.lt_succ_iff_lt_or_eq.1 hz with h | rfl
                  · exact Hno.out z h
                  · exact hf⟩
                case measure => simp [intOf]; omega
            · obtain rfl : y = 256 := by omega
              have hop : opP (opG nm) = none := by
                unfold opP
                rw [List.find?_eq_none]
                intro y hy
                rw [Hno.out y (List.mem_range.1 hy)]; simp
              have hMS : Hid (o ++ MS = o ++ X) := Lib.hid (by rw [HM2.out, hop]; rfl)
              clear HM2 hop
              have bb4 := Below.then bb3 hbq
              have O4 := O3.kept hbq
              go_wp2_with fail
              go_roundw
              case rel => exact ⟨k + 1, _, by omega, by go_num, O4, bb4, by have := HLa.out; rw [hMS.out, HX.out, List.append_nil] at this; exact this⟩
              case measure => simp [intOf]; omega
      | true =>
        obtain ⟨X, hX⟩ : ∃ X : List UInt8, X = D := ⟨_, rfl⟩
        have HM : Hid (MS = if E = 0 then T else (match opP (opG nm) with | none => [] | some y => [UInt8.ofNat y]) ++ X) := Lib.hid (by rw [hmay, hX]; rfl)
        have HX := Lib.hid hX
        clear hmay hX
        have htw : twoP s = [nm, dt] := by unfold twoP; rw [← hC]; rfl
        rw [htw] at c2
        have C2 := Lib.hid c2
        clear c2 htw hC
        go_upto_region 6 with (first
          | (go_at_call 10; (with_reducible refine (C2.out _ hb).mono ?_); rintro e w2 ⟨fc, rfl, b2, r2⟩))
        have bb2 := Below.then hb b2
        have O2 := O.kept b2
        have hg2 : wo.heap.size < w2.heap.size := by
          obtain ⟨b, off, e, hc⟩ := RowOf.cells (f := fcell) (size := 1) (fun _ => rfl) r2 0 (by simp)
          simp only [Option.some.injEq, Addr.mk.injEq, and_true] at e
          obtain ⟨rfl, rfl⟩ := e
          exact World.block_lt_of_cell? w2 _ (hc 0 _ rfl)
        have q0 : ∀ u, Below w2.heap.size w2 u → u.cell? ⟨wo.heap.size, 0, none⟩ = some (.string ⟨nm.toArray⟩) := fun u hu => by
          obtain ⟨b, off, e, hc⟩ := RowOf.cells (f := fcell) (size := 1) (fun _ => rfl) (RowOf.kept (f := fcell) (size := 1) r2 hu) 0 (by simp)
          simp only [Option.some.injEq, Addr.mk.injEq, and_true] at e
          obtain ⟨rfl, rfl⟩ := e
          have := hc 0 _ rfl
          simpa using this
        have q1 : ∀ u, Below w2.heap.size w2 u → u.cell? ⟨wo.heap.size, 1, none⟩ = some (.string ⟨dt.toArray⟩) := fun u hu => by
          obtain ⟨b, off, e, hc⟩ := RowOf.cells (f := fcell) (size := 1) (fun _ => rfl) (RowOf.kept (f := fcell) (size := 1) r2 hu) 1 (by simp)
          simp only [Option.some.injEq, Addr.mk.injEq, and_true] at e
          obtain ⟨rfl, rfl⟩ := e
          have := hc 0 _ rfl
          simpa using this
        have Q0 := Lib.hid q0
        have Q1 := Lib.hid q1
        have m0 := q0 w2 (Below.refl _ _)
        obtain ⟨g, hg⟩ : ∃ g, g = wo.heap.size := ⟨_, rfl⟩
        have HGo : Hid (∀ kk, (Value.slice oa on oc).ownBlock = some kk → kk < g) := Lib.hid fun kk hkk => by rw [hg]; exact (World.ownsRow.lt O kk hkk).2
        simp only [← hg] at m0 Q0 Q1 ⊢
        clear C2 O b2 r2 q0 hg hg2 hb q1
        go_upto_region 7 with (first
          | (go_at_call 11; (with_reducible refine (Cp.out _).mono ?_); rintro e w3 ⟨v3, rfl, o3, b3⟩))
        have bb3 := Below.then bb2 b3
        have O3 := O2.kept b3
        obtain ⟨va, vc, rfl, _⟩ := o3.form' tl HTl.out
        have V3 := o3.row
        clear O2 Cp m0 o3
        by_cases hE0 : E = 0
        · subst hE0
          have hMS : Hid (MS = T) := Lib.hid (by rw [HM.out, if_pos rfl])
          clear HM
          go_wp2_with (first
            | (refine wpList_appA (o := ⟨some 34, _, _, _, _, _⟩) (by rfl) (.tmp 32) (.tmp 33) 22 (by rfl) elU8 (by rfl) O3 (by rfl) V3 bb3.size (by have h1 := HTl.out; omega) (by unfold maxLen; have h1 := HTl.out; omega) ?_; intro v9 w9 hA9 hg9 _; have bb9 := bb3.grown hg9 bb3.size (fun j hj => O3.lt j hj)))
          go_roundw
          case rel => exact ⟨k + 1, _, by omega, by go_num, hA9, bb9, by rw [← hMS.out]; exact HLa.out⟩
          case measure => simp [intOf]; omega
        · have hEi : (E == 0) = false := beq_eq_false_iff_ne.2 hE0
          have HM2 : Hid (MS = (match opP (opG nm) with | none => [] | some y => [UInt8.ofNat y]) ++ X) := Lib.hid (by rw [HM.out, if_neg hE0])
          clear HM V3
          go_wp2_with fail
          have Q00 : Below w3.heap.size w3 w3 := Below.refl _ _
          go_loopw [4, 35] (fun v ix wq => v = .slice oa on oc ∧ ∃ y : Nat, y ≤ 256 ∧ ix = .int .i64 (y : Int) ∧ Below w3.heap.size w3 wq ∧ ∀ z, z < y → opG nm z = false) (fun _ ix _ => 256 - (intOf ix).toNat)
          case atStart => exact ⟨rfl, 0, by omega, rfl, Q00, fun y hy => by omega⟩
          case round =>
            clear Q00
            obtain ⟨rfl, y, hy, rfl, hbq, hno⟩ := hrel
            have Hno := Lib.hid hno
            clear hno
            by_cases hlty : y < 256
            · have hyi : (y : Int) < 256 := by omega
              have hw8 : IntKind.u8.wrap (y : Int) = (y : Int) := IntWalk.u8_in _ (by omega)
              have hwy : IntKind.i64.wrap ((y : Int) + 1) = ((y + 1 : Nat) : Int) := by rw [IntWalk.i64_in _ (by omega)]; omega
              have cl := fun u (hu : Below w.heap.size w u) => lname_any y (by omega) u (tabC Ht.out hu)
              rw [ln_nm y hlty] at cl
              have hf : opG nm y = (nmP y == nm) := rfl
              obtain ⟨A, hA⟩ : ∃ A, A = nmP y := ⟨_, rfl⟩
              rw [← hA] at hf
              simp only [← hA] at cl
              have Cl := Lib.hid cl
              clear cl hA
              have bb4 := Below.then bb3 hbq
              have O4 := O3.kept hbq
              have z0 := fun u : Ext wr => Q0.out u.val (Below.then b3 (Below.then hbq u.bel))
              by_cases h1 : A = nm
              · subst h1
                have hb1 : (A == A) = true := beq_self_eq_true A
                go_upto_region 12 with fail
                refine wp_region_typed wr 7 (by kernel_rfl) (by kernel_rfl) (Below.refl _ _) ?_; simp only [List.take_succ_cons, List.take_zero, List.take_nil]
                iterate 2 (refine wpX_step (by rfl) (fun K hK => ?_); go_simp; first | (refine hK _ ?_; clear hK K) | (apply Exists.intro; refine ⟨fun _ => ?_, hK _ ?_⟩; fail; clear hK K))
                refine wpX_eq (.string ⟨A.toArray⟩) (fun w7 hw7 => ?_) ?_
                · simp only [relOf, List.filter_nil, forallRel]
                  refine ⟨rfl, ?_⟩
                  go_simp
                  refine (Cl.out w7 (Below.then bb4 hw7)).mono ?_
                  rintro e w8 ⟨rfl, b8⟩
                  exact ⟨_, rfl, rfl, b8⟩
                iterate 4 (refine wpX_step (by rfl) (fun K hK => ?_); go_simp; first | (refine hK _ ?_; clear hK K) | (apply Exists.intro; refine ⟨fun _ => ?_, hK _ ?_⟩; fail; clear hK K))
                refine wpX_nil ?_
                intro u2 hb2
                change forallRel u2 [] _ _
                simp only [forallRel, List.drop_succ_cons, List.drop_zero, List.drop_nil]
                have bb5 := Below.then bb4 hb2
                have O5 := O4.kept hb2
                clear z0
                try simp only [Act.put, List.setIfInBounds_toArray, List.set_cons_zero, List.set_cons_succ]
                have hop : opP (opG A) = some y := by
                  have := find_first (opG A) (List.range 256) y (by rw [List.length_range]; exact hlty) (fun j hj hjk => by rw [List.getElem_range]; exact Hno.out j hjk) (by rw [List.getElem_range, hf]; exact hb1)
                  rw [List.getElem_range] at this
                  exact this
                have hMS : Hid (o ++ MS = (o ++ [UInt8.ofNat y]) ++ X) := Lib.hid (by rw [HM2.out, hop, List.append_assoc])
                clear HM2 hop
                have bc2 := Below.then b3 (Below.then hbq (Below.then hb2 ((Below.refl _ _).alloc (Nat.le_refl _) (.cells #[.int .u8 (y : Int)] 5))))
                have r6 := By_one u2 y hlty
                have bb6 := Below.then bb5 ((Below.refl _ _).alloc (Nat.le_refl _) (.cells #[.int .u8 (y : Int)] 5))
                have O6 := O5.kept ((Below.refl _ _).alloc (Nat.le_refl _) (.cells #[.int .u8 (y : Int)] 5))
                go_wp2_with (first
                  | (rw [hw8])
                  | (refine wpList_appA (o := ⟨some 49, _, _, _, _, _⟩) (by rfl) (.tmp 45) (.tmp 48) 22 (by rfl) elU8 (by rfl) O6 (by rfl) r6 bb6.size (by simp only [List.length_singleton]; omega) (by unfold maxLen; simp only [List.length_singleton]; omega) ?_; intro v9 w9 hA9 hg9 _; obtain ⟨pa, pn, pc, rfl, hpn⟩ := by_form hA9; have Hpn := Lib.hid hpn; clear hpn; have m9 : w9.cell? ⟨g, 1, none⟩ = some (.string ⟨dt.toArray⟩) := (by have c := Q1.out _ bc2; exact (World.cell?_of_block (w := u2.alloc (.cells #[.int .u8 (y : Int)] 5)) (hg9.block g (World.block_lt_of_cell? _ _ c) (fun e => absurd (HGo.out _ e.symm) (Nat.lt_irrefl _)))).trans c); have bb9 := bb6.grown hg9 bb6.size (fun j hj => O6.lt j hj))
                  | (go_at_call 11; (with_reducible refine (Ct.out _).mono ?_); rintro e w8 ⟨v8, rfl, o8, b8⟩; have bb8 := Below.then bb9 b8; obtain ⟨ya, yc, rfl, _⟩ := o8.form' dl HDl.out; have V8 := o8.row; have O8 := hA9.kept b8)
                  | (refine wpList_appA (o := ⟨some 63, _, _, _, _, _⟩) (by rfl) (.tmp 61) (.tmp 62) 22 (by rfl) elU8 (by rfl) O8 (by rfl) V8 bb8.size (by have h1 := HDl.out; simp only [List.length_append, List.length_singleton]; omega) (by unfold maxLen; have h1 := HDl.out; simp only [List.length_append, List.length_singleton]; omega) ?_; intro v99 w99 hA99 hg99 _; have bb99 := bb8.grown hg99 bb8.size (fun j hj => O8.lt j hj)))
                go_roundw
                case rel => exact ⟨k + 1, _, by omega, by go_num, hA99, bb99, by have := HLa.out; rw [hMS.out, HX.out] at this; exact this⟩
                case measure => simp [intOf]; omega
              · have hb1 : (A == nm) = false := beq_eq_false_iff_ne.2 h1
                rw [hb1] at hf
                clear h1
                go_upto_region 12 with fail
                refine wp_region_typed wr 7 (by kernel_rfl) (by kernel_rfl) (Below.refl _ _) ?_; simp only [List.take_succ_cons, List.take_zero, List.take_nil]
                iterate 2 (refine wpX_step (by rfl) (fun K hK => ?_); go_simp; first | (refine hK _ ?_; clear hK K) | (apply Exists.intro; refine ⟨fun _ => ?_, hK _ ?_⟩; fail; clear hK K))
                refine wpX_eq (.string ⟨A.toArray⟩) (fun w7 hw7 => ?_) ?_
                · simp only [relOf, List.filter_nil, forallRel]
                  refine ⟨rfl, ?_⟩
                  go_simp
                  refine (Cl.out w7 (Below.then bb4 hw7)).mono ?_
                  rintro e w8 ⟨rfl, b8⟩
                  exact ⟨_, rfl, rfl, b8⟩
                iterate 4 (refine wpX_step (by rfl) (fun K hK => ?_); go_simp; first | (refine hK _ ?_; clear hK K) | (apply Exists.intro; refine ⟨fun _ => ?_, hK _ ?_⟩; fail; clear hK K))
                refine wpX_nil ?_
                intro u2 hb2
                change forallRel u2 [] _ _
                simp only [forallRel, List.drop_succ_cons, List.drop_zero, List.drop_nil]
                have bb5 := Below.then bb4 hb2
                have O5 := O4.kept hb2
                clear z0
                try simp only [Act.put, List.setIfInBounds_toArray, List.set_cons_zero, List.set_cons_succ]
                go_wp2_with fail
                go_roundw
                case rel => exact ⟨rfl, y + 1, by omega, by go_num, Below.then hbq hb2, fun z hz => by
                  rcases Nat.lt_succ_iff_lt_or_eq.1 hz with h | rfl
                  · exact Hno.out z h
                  · exact hf⟩
                case measure => simp [intOf]; omega
            · obtain rfl : y = 256 := by omega
              have hop : opP (opG nm) = none := by
                unfold opP
                rw [List.find?_eq_none]
                intro y hy
                rw [Hno.out y (List.mem_range.1 hy)]; simp
              have hMS : Hid (o ++ MS = o ++ X) := Lib.hid (by rw [HM2.out, hop]; rfl)
              clear HM2 hop
              have bb4 := Below.then bb3 hbq
              have O4 := O3.kept hbq
              have m4 := Q1.out wr (Below.then b3 hbq)
              go_wp2_with (first
                | (go_at_call 11; (with_reducible refine (Ct.out _).mono ?_); rintro e w8 ⟨v8, rfl, o8, b8⟩; have bb8 := Below.then bb4 b8; obtain ⟨ya, yc, rfl, _⟩ := o8.form' dl HDl.out; have V8 := o8.row; have O8 := O4.kept b8)
                | (refine wpList_appA (o := ⟨some 63, _, _, _, _, _⟩) (by rfl) (.tmp 61) (.tmp 62) 22 (by rfl) elU8 (by rfl) O8 (by rfl) V8 bb8.size (by have h1 := HDl.out; omega) (by unfold maxLen; have h1 := HDl.out; omega) ?_; intro v99 w99 hA99 hg99 _; have bb99 := bb8.grown hg99 bb8.size (fun j hj => O8.lt j hj)))
              go_roundw
              case rel => exact ⟨k + 1, _, by omega, by go_num, hA99, bb99, by have := HLa.out; rw [hMS.out, HX.out] at this; exact this⟩
              case measure => simp [intOf]; omega
    · obtain rfl : k = n := by omega
      obtain ⟨h1, h2⟩ := hL
      have hdr : ls.drop k = [] := by rw [← Hn.out]; exact List.drop_length
      rw [hdr] at h1 h2
      rw [List.flatMap_nil, List.append_nil] at h1
      have hol : o.length ≤ 1048576 := by omega
      obtain ⟨oa, on, oc, rfl, hon⟩ := by_form O
      have cd := ldisassemble_any oa on oc o hon.symm (by omega) wo O.row (tabC Ht.out hb)
      have hla : lasmP ls = if dis o = ls then some o else none := by unfold lasmP; rw [h1]
      obtain ⟨K, hK⟩ : ∃ K, K = dis o := ⟨_, rfl⟩
      rw [← hK] at cd hla
      obtain ⟨R, hR⟩ : ∃ R, R = lasmP ls := ⟨_, rfl⟩
      have Hpost : Hid (∀ e w', AsPost R w e w' → AsPost (lasmP ls) w e w') := Lib.hid fun e w' h => by rw [← hR]; exact h
      rw [← hR] at hla
      have Hla := Lib.hid hla
      have Cd := Lib.hid cd
      have Hon := Lib.hid hon
      clear h1 h2 hdr hol cd hla hK hR hon hs
      obtain ⟨kn, hkn⟩ : ∃ m, m = K.length := ⟨_, rfl⟩
      have HKn := Lib.hid hkn.symm
      by_cases hlk : kn = k
      · have hbk : (kn : Int) = (k : Int) := by omega
        subst hlk
        have hbe : ((kn : Int) == (kn : Int)) = true := beq_self_eq_true _
        clear hkn hbk
        go_upto_region 22 with (first
          | (go_at_call 8; (with_reducible refine Cd.out.mono ?_); rintro e w5 ⟨v5, rfl, o5, b5⟩; obtain ⟨ka, kc, rfl, _⟩ := o5.form' kn HKn.out; have O5 := O.kept b5; have bb5 := Below.then hb b5; have r5 := o5.row))
        go_wp2_with fail
        have Q00 : Below w5.heap.size w5 w5 := Below.refl _ _
        go_loopw [74] (fun ix wr => ∃ j : Nat, j ≤ kn ∧ ix = .int .i64 (j : Int) ∧ Below w5.heap.size w5 wr ∧ ∀ i, i < j → K[i]? = ls[i]?) (fun ix _ => kn - (intOf ix).toNat)
        case atStart => exact ⟨0, by omega, rfl, Q00, fun i hi => by omega⟩
        case round =>
          clear Q00
          obtain ⟨j, hj, rfl, hbq, hno⟩ := hrel
          have Hno := Lib.hid hno
          clear hno
          by_cases hjl : j < kn
          · have hji : (j : Int) < (kn : Int) := by omega
            have hwj : IntKind.i64.wrap ((j : Int) + 1) = ((j + 1 : Nat) : Int) := by rw [IntWalk.i64_in _ (by omega)]; omega
            have h1 : j < K.length := by rw [HKn.out]; exact hjl
            have h2 : j < ls.length := by rw [Hn.out]; exact hjl
            obtain ⟨b5x, o5x, e5, hc5⟩ := RowOf.cells (f := fcell) (size := 1) (fun _ => rfl) (RowOf.kept (f := fcell) (size := 1) r5 hbq) j h1
            obtain ⟨b6x, o6x, e6, hc6⟩ := RowOf.cells (f := fcell) (size := 1) (fun _ => rfl) (H.out.below (Below.then bb5 hbq)) j h2
            have z5 := hc5 0 _ rfl
            have z6 := hc6 0 _ rfl
            rw [Nat.mul_one, Nat.add_zero] at z5 z6
            have g1 : K[j]? = some K[j] := List.getElem?_eq_getElem h1
            have g2 : ls[j]? = some ls[j] := List.getElem?_eq_getElem h2
            obtain ⟨X, hX⟩ : ∃ X, X = K[j] := ⟨_, rfl⟩
            obtain ⟨Y, hY⟩ : ∃ X, X = ls[j] := ⟨_, rfl⟩
            rw [← hX] at z5 g1
            rw [← hY] at z6 g2
            subst e5
            subst e6
            have x5 := fun u : Ext wr => u.cell z5
            have x6 := fun u : Ext wr => u.cell z6
            have G1 := Lib.hid g1
            have G2 := Lib.hid g2
            clear hc5 hc6 z5 z6 g1 g2 hX hY h1 h2
            by_cases hXY : X = Y
            · subst hXY
              have hbx : (X == X) = true := beq_self_eq_true X
              go_upto_region 25 with fail
              refine wp_region_typed wr 9 (by kernel_rfl) (by kernel_rfl) (Below.refl _ _) ?_; simp only [List.take_succ_cons, List.take_zero, List.take_nil]
              iterate 9 (refine wpX_step (by rfl) (fun K hK => ?_); go_simp; first | (refine hK _ ?_; clear hK K) | (apply Exists.intro; refine ⟨fun _ => ?_, hK _ ?_⟩; fail; clear hK K))
              refine wpX_nil ?_
              intro u2 hb2
              change forallRel u2 [] _ _
              simp only [forallRel, List.drop_succ_cons, List.drop_zero, List.drop_nil]
              clear x5 x6
              go_wp2_with fail
              go_roundw
              case rel => exact ⟨j + 1, by omega, by go_num, Below.then hbq hb2, fun i hi => by
                rcases Nat.lt_succ_iff_lt_or_eq.1 hi with h | rfl
                · exact Hno.out i h
                · rw [G1.out, G2.out]⟩
              case measure => simp [intOf]; omega
            · have hbx : (X == Y) = false := beq_eq_false_iff_ne.2 hXY
              have hbad : R = none := by
                rw [Hla.out, if_neg]
                intro e
                rw [e] at G1
                have := G1.out.symm.trans G2.out
                exact hXY (Option.some.inj this)
              clear Hla hXY
              go_upto_region 25 with fail
              refine wp_region_typed wr 9 (by kernel_rfl) (by kernel_rfl) (Below.refl _ _) ?_; simp only [List.take_succ_cons, List.take_zero, List.take_nil]
              iterate 9 (refine wpX_step (by rfl) (fun K hK => ?_); go_simp; first | (refine hK _ ?_; clear hK K) | (apply Exists.intro; refine ⟨fun _ => ?_, hK _ ?_⟩; fail; clear hK K))
              refine wpX_nil ?_
              intro u2 hb2
              change forallRel u2 [] _ _
              simp only [forallRel, List.drop_succ_cons, List.drop_zero, List.drop_nil]
              clear x5 x6
              go_wp2_with fail
              go_ret2
              exact Hpost.out _ _ (AsPost.bad hbad (Below.then bb5 (Below.then hbq hb2)))
          · obtain rfl : j = kn := by omega
            have hg : R = some o := by
              rw [Hla.out, if_pos]
              apply List.ext_getElem?
              intro i
              by_cases hi : i < j
              · exact Hno.out i hi
              · rw [List.getElem?_eq_none (by rw [HKn.out]; omega), List.getElem?_eq_none (by rw [Hn.out]; omega)]
            clear Hla
            go_wp2_with fail
            go_ret2
            exact Hpost.out _ _ (AsPost.good hg (O5.kept hbq).row (Below.then bb5 hbq))
      · have hbe : ((kn : Int) == (k : Int)) = false := beq_eq_false_iff_ne.2 (by omega)
        have hbad : R = none := by
          rw [Hla.out, if_neg]
          intro e
          apply hlk
          rw [hkn, e]; exact Hn.out
        clear Hla hkn hlk
        go_wp2_with (first
          | (go_at_call 8; (with_reducible refine Cd.out.mono ?_); rintro e w5 ⟨v5, rfl, o5, b5⟩; obtain ⟨ka, kc, rfl, _⟩ := o5.form' kn HKn.out; have O5 := O.kept b5; have bb5 := Below.then hb b5; have r5 := o5.row))
        go_ret2
        exact Hpost.out _ _ (AsPost.bad hbad bb5)
end Go.Proofs.YtkgfijdodbkkgaaDoor
