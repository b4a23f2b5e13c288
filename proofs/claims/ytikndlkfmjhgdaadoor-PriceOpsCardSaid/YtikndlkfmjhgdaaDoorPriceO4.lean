/- The reference's MOp. -/
import Derived.Test.YtikndlkfmjhgdaaDoorPriceO3
set_option linter.unusedSimpArgs false
set_option linter.unusedVariables false
namespace Go.Proofs.YtikndlkfmjhgdaaDoor
open Go.RowKit Go.Shelf
def hit (n m : List UInt8) : Bool := m == n && !n.isEmpty
def hit' (n : List UInt8) (g : List UInt8 × List (List UInt8)) : Bool := g.2.any (hit n)
theorem moP_three (n : List UInt8) (k : Nat) (hk : k < 3) (h : (threes[k]'hk).isPrefixOf n = true) : moP n = 3 := by
  unfold moP
  rw [if_pos (List.any_eq_true.2 ⟨_, List.getElem_mem hk, h⟩)]
theorem moP_hit (n : List UInt8) (h3 : ∀ k (hk : k < 3), (threes[k]'hk).isPrefixOf n = false) (j : Nat) (hj : j < pks.length) (hall : ∀ i (hi : i < pks.length), i < j → pks[i].2.any (hit n) = false) (k : Nat) (hk : k < pks[j].2.length) (hh : hit n pks[j].2[k] = true) : moP n = costN pks[j].1 := by
  unfold moP
  rw [if_neg (by
    rw [List.any_eq_true]
    rintro ⟨p, hp, hq⟩
    obtain ⟨i, hi, rfl⟩ := List.getElem_of_mem hp
    rw [h3 i hi] at hq; cases hq), find_first _ pks j hj hall (List.any_eq_true.2 ⟨_, List.getElem_mem hk, hh⟩)]
theorem moP_none (n : List UInt8) (h3 : ∀ k (hk : k < 3), (threes[k]'hk).isPrefixOf n = false) (hall : ∀ i (hi : i < pks.length), i < 15 → pks[i].2.any (hit n) = false) : moP n = 0 := by
  unfold moP
  rw [if_neg (by
    rw [List.any_eq_true]
    rintro ⟨p, hp, hq⟩
    obtain ⟨i, hi, rfl⟩ := List.getElem_of_mem hp
    rw [h3 i hi] at hq; cases hq)]
  have : pks.find? (hit' n) = none := by
    rw [List.find?_eq_none]
    intro g hg
    obtain ⟨i, hi, rfl⟩ := List.getElem_of_mem hg
    unfold hit'
    rw [hall i hi (by rw [pk_len] at hi; exact hi)]; simp
  rw [show (fun g : List UInt8 × List (List UInt8) => g.2.any (fun m => m == n && !n.isEmpty)) = hit' n from rfl, this]
theorem run_cost (l : List UInt8) (u : World) : (convert 9 31 (.string ⟨l.toArray⟩)).run Tryd.prog u = .ok (.slice (some ⟨u.heap.size, 0, none⟩) l.length (grownCap u l.length 0 5)) (Lib.bytesWorld u 5 ⟨l.toArray⟩) := by
  have := Lib.run_convert_string_bytes (P := Tryd.prog) u 9 31 5 ⟨l.toArray⟩ (show Tryd.prog.underlying 9 = some .string by kernel_rfl) elU8.ht (show Tryd.prog.underlying 5 = some (.int .u8) by kernel_rfl)
  simpa [ByteArray.size] using this
theorem below_drewN (w : World) (k : Nat) : Below w.heap.size w (w.drewN k) := ⟨rfl, rfl, rfl, Nat.le_refl _, fun _ _ => rfl⟩
set_option maxHeartbeats 4000000 in
set_option maxRecDepth 100000 in
theorem mop_any (x : Nat) (hx : x < 256) (w : World) (ht : Lib.TabIs Tryd.prog w "strings.asciiSpace" .u8 Lib.asciiSpaceTab) (hm : MaxHas w) :
    Calls Tryd.prog 8 #[.int .u8 (x : Int)] w fun e w' => e = .returned (.int .u64 (moP (lnP x) : Int)) ∧ Below w.heap.size w w' := by
  have c1 := lname_any x hx w ht
  obtain ⟨n, hn⟩ : ∃ n, n = lnP x := ⟨_, rfl⟩
  rw [← hn] at c1 ⊢
  obtain ⟨R, hR⟩ : ∃ R, R = moP n := ⟨_, rfl⟩
  rw [← hR]
  have HR := Lib.hid hR
  have Ht := Lib.hid ht
  have Hm := Lib.hid hm
  have C1 := Lib.hid c1
  clear hR ht hm c1 hn hx
  go_enter Tryd.func8, Tryd.ntmps8
  go_wp2_with (go_at_call 6; refine C1.out.mono ?_; rintro e w1 ⟨rfl, b1⟩)
  obtain ⟨wk, hwk⟩ : ∃ wk, wk = w1.alloc (.cells (threes.flatMap fcell).toArray 9) := ⟨_, rfl⟩
  have hrowK : RowOf fcell 1 wk (.slice (some ⟨w1.heap.size, 0, none⟩) 3 3) threes := by
    rw [hwk]; exact Row.built (f := fcell) (size := 1) (fun _ => rfl) w1 9 threes 3 rfl (by unfold maxLen; omega)
  have hbk : Below w.heap.size w wk := by rw [hwk]; exact b1.alloc b1.size _
  have Hwk := Lib.hid hwk
  have HrowK := Lib.hid hrowK
  clear hwk hrowK
  go_loopw [20] (fun ix wr => ∃ k : Nat, k ≤ 3 ∧ ix = .int .i64 (k : Int) ∧ (∀ j (hj : j < 3), j < k → (threes[j]'hj).isPrefixOf n = false) ∧ Below wk.heap.size wk wr) (fun ix _ => 3 - (intOf ix).toNat)
  case atStart => exact ⟨0, by omega, rfl, fun j hj h => by omega, by rw [Hwk.out]; exact Below.refl _ _⟩
  case round =>
    obtain ⟨k, hkk, rfl, hall, hwk2⟩ := hrel
    have hbr := Below.then hbk hwk2
    by_cases hlt : k < 3
    · have hki : (k : Int) < 3 := by omega
      obtain ⟨b2, o2, hab, hcc⟩ := RowOf.cells (f := fcell) (size := 1) (fun _ => rfl) (HrowK.out.below hwk2) k hlt
      simp only [Option.some.injEq, Addr.mk.injEq, and_true] at hab
      obtain ⟨rfl, rfl⟩ := hab
      have hc0 := hcc 0 (.string ⟨(threes[k]'hlt).toArray⟩) rfl
      simp only [Nat.mul_one, Nat.add_zero, Nat.zero_add] at hc0
      obtain ⟨q, hq⟩ : ∃ q, q = (threes[k]'hlt).isPrefixOf n := ⟨_, rfl⟩
      have h3 := moP_three n k hlt
      obtain ⟨m, hmm⟩ : ∃ m, m = (threes[k]'hlt) := ⟨_, rfl⟩
      have cp := prefix_any n m
      have hnx : q = false → ∀ j (hj : j < 3), j < k + 1 → (threes[j]'hj).isPrefixOf n = false := by
        intro he j hj hji
        by_cases e : j = k
        · subst e; rw [← hq]; exact he
        · exact hall j hj (by omega)
      rw [← hq] at h3
      rw [← hmm] at hq hc0
      rw [← hq] at cp
      have H3 := Lib.hid h3
      have Hnx := Lib.hid hnx
      have Cp := Lib.hid cp
      clear h3 hnx cp hq hmm hall hlt hcc
      cases q with
      | true =>
        have hRe : R = 3 := by rw [HR.out]; exact H3.out rfl
        subst hRe
        go_wp2_with (go_at_call 16; refine (Cp.out _).mono ?_; rintro e w2 ⟨rfl, rfl⟩)
        go_ret
        exact ⟨rfl, hbr⟩
      | false =>
        have hnx' := Hnx.out rfl
        have Hnx' := Lib.hid hnx'
        clear hnx'
        go_wp2_with (go_at_call 16; refine (Cp.out _).mono ?_; rintro e w2 ⟨rfl, rfl⟩)
        go_roundw
        case rel => exact ⟨k + 1, by omega, by go_num, Hnx'.out, hwk2⟩
        case measure => simp [intOf]; omega
    · obtain rfl : k = 3 := by omega
      have h3 : ∀ k (hk : k < 3), (threes[k]'hk).isPrefixOf n = false := fun k hk => hall k hk hk
      obtain ⟨wo, hwo⟩ : ∃ x, x = wr := ⟨wr, rfl⟩
      subst hwo
      have H3 := Lib.hid h3
      have cf := fields_any2 pricesL pfs (by decide) prices_ascii prices_fields (by decide) wo (ptab_below Ht.out hbr)
      rw [pf_len] at cf
      have hmo : MaxHas wo := Hm.out.below hbr
      have Hmo := Lib.hid hmo
      have Cf := Lib.hid cf
      clear h3 cf hmo hall hlt HrowK Hwk hwk2
      go_wp2_with (go_at_call 13; refine (Cf.out).mono ?_; rintro e w2 ⟨rfl, b2, hrowF⟩)
      have hbf : Below w.heap.size w w2 := Below.then hbr b2
      have hmf : MaxHas w2 := Hmo.out.below b2
      have Hmf := Lib.hid hmf
      have HrowF := Lib.hid hrowF
      obtain ⟨wn, hwn⟩ : ∃ x, x = wo.heap.size := ⟨_, rfl⟩
      rw [← hwn] at HrowF ⊢
      clear hmf hrowF hwn b2 hbr hbk Hmo Hm Ht C1
      go_loopw [30] (fun ix wr => ∃ j : Nat, j ≤ 15 ∧ ix = .int .i64 (j : Int) ∧ (∀ i (hi : i < pks.length), i < j → pks[i].2.any (hit n) = false) ∧ Below w2.heap.size w2 wr) (fun ix _ => 15 - (intOf ix).toNat)
      case atStart => exact ⟨0, by omega, rfl, fun j hj h => by omega, Below.refl _ _⟩
      case round =>
        obtain ⟨j, hjj, rfl, hall, hw2r⟩ := hrel
        have hbr := Below.then hbf hw2r
        obtain ⟨wo, hwo⟩ : ∃ x, x = wr := ⟨wr, rfl⟩
        subst hwo
        by_cases hlt : j < 15
        · have hki : (j : Int) < 15 := by omega
          obtain ⟨b2, o2, hab, hcc⟩ := RowOf.cells (f := fcell) (size := 1) (fun _ => rfl) (HrowF.out.below hw2r) j (by rw [pf_len]; exact hlt)
          simp only [Option.some.injEq, Addr.mk.injEq, and_true] at hab
          obtain ⟨rfl, rfl⟩ := hab
          have hc0 := hcc 0 (.string ⟨(pfs[j]'(by rw [pf_len]; exact hlt)).toArray⟩) rfl
          simp only [Nat.mul_one, Nat.add_zero, Nat.zero_add] at hc0
          have pk := pk_parts j hlt
          have hmh : ∀ m ∈ (pks[j]'(by rw [pk_len]; exact hlt)).2, hit n m = true → moP n = costN (pks[j]'(by rw [pk_len]; exact hlt)).1 := by
            intro m hm hh
            obtain ⟨k, hk, rfl⟩ := List.getElem_of_mem hm
            exact moP_hit n H3.out j (by rw [pk_len]; exact hlt) hall k hk hh
          have hnx : (∀ m ∈ (pks[j]'(by rw [pk_len]; exact hlt)).2, hit n m = false) → ∀ i (hi : i < pks.length), i < j + 1 → pks[i].2.any (hit n) = false := by
            intro he i hi hij
            by_cases e : i = j
            · subst e
              rw [List.any_eq_false]
              intro m hm
              rw [he m hm]; simp
            · exact hall i hi (by omega)
          obtain ⟨f, hf⟩ : ∃ f, f = (pfs[j]'(by rw [pf_len]; exact hlt)) := ⟨_, rfl⟩
          obtain ⟨g, hg⟩ : ∃ g, g = (pks[j]'(by rw [pk_len]; exact hlt)) := ⟨_, rfl⟩
          rw [← hf] at hc0 pk
          rw [← hg] at pk hmh hnx
          clear hf hg hcc hall
          have cc := cut_any f [58] pk.short wo (Hmf.out.below hw2r)
          obtain ⟨J, hJ⟩ : ∃ J, J = jnd f := ⟨_, rfl⟩
          have cs := fun (u : World) (hu : MaxHas u) => split_any2 (jnd f) [44] pk.short2 (by decide) u hu g.2 pk.names pk.many (by have := pk.few; unfold maxLen; omega)
          rw [show (Lib.cut f [58]).2.1 = J from hJ.symm, pk.cost] at cc
          rw [← hJ] at cs
          have Hnx := Lib.hid hnx
          have Hmh := Lib.hid hmh
          have Pk := Lib.hid pk
          have Cc := Lib.hid cc
          have Cs := Lib.hid cs
          have Hmo := Lib.hid (Hmf.out.below hw2r)
          clear hnx hmh pk cc cs hJ hlt
          obtain ⟨C, hC⟩ : ∃ C, C = g.1 := ⟨_, rfl⟩
          obtain ⟨M, hM⟩ : ∃ M, M = g.2 := ⟨_, rfl⟩
          rw [← hC, Pk.out.found] at Cc
          rw [← hM] at Cs
          obtain ⟨L, hL⟩ : ∃ L, L = M.length := ⟨_, rfl⟩
          rw [← hL] at Cs
          have HC := Lib.hid hC
          have HM := Lib.hid hM
          have HL := Lib.hid hL
          clear hC hM hL
          go_wp2_with (first
            | (go_at_call 17; refine (Cc.out).mono ?_; rintro e w3 ⟨rfl, n3, rfl⟩)
            | (go_at_call 18; refine (Cs.out _ (Hmo.out.below (below_drewN _ n3))).mono ?_; rintro e w4 ⟨rfl, b4, hrowM⟩))
          have bw4 : Below wo.heap.size wo w4 := Below.then (below_drewN wo n3) b4
          have hsz : (wo.drewN n3).heap.size = wo.heap.size := rfl
          rw [hsz] at hrowM
          have HrowM := Lib.hid hrowM
          have hL100 : L ≤ 100 := by rw [HL.out, HM.out]; exact Pk.out.few
          have Hhit : Hid (∀ m ∈ M, m ≠ [] ∧ (hit n m = true → R = costN C)) := Lib.hid (fun m hm => ⟨Pk.out.some m (by rw [← HM.out]; exact hm), fun h => by rw [HR.out, HC.out]; exact Hmh.out m (by rw [← HM.out]; exact hm) h⟩)
          have Hnx2 : Hid ((∀ m ∈ M, hit n m = false) → ∀ i (hi : i < pks.length), i < j + 1 → pks[i].2.any (hit n) = false) := Lib.hid (by rw [HM.out]; exact Hnx.out)
          have Hdig : Hid ((∀ d ∈ C, 48 ≤ d.toNat ∧ d.toNat ≤ 57) ∧ C.length ≤ 3 ∧ ∀ i, i ≤ C.length → costN (C.take i) ≤ 500) := Lib.hid (by rw [HC.out]; exact ⟨Pk.out.digits, Pk.out.three, Pk.out.cheap⟩)
          clear hrowM b4 HM HC Hmo Hnx Hmh Cc Cs hsz hc0 Pk
          go_loopw [43] (fun ix wr => ∃ k : Nat, k ≤ L ∧ ix = .int .i64 (k : Int) ∧ (∀ (i : Nat) (m : List UInt8), i < k → M[i]? = some m → hit n m = false) ∧ Below w4.heap.size w4 wr) (fun ix _ => L - (intOf ix).toNat)
          case atStart => exact ⟨0, by omega, rfl, fun i m h => by omega, Below.refl _ _⟩
          case round =>
            obtain ⟨k, hkk, rfl, hall, hw4r⟩ := hrel
            have hbr4 := Below.then (Below.then hbr bw4) hw4r
            by_cases hlt : k < L
            · have hki : (k : Int) < (L : Int) := by omega
              have hkl : k < M.length := by rw [← HL.out]; exact hlt
              obtain ⟨b2, o2, hab, hcc⟩ := RowOf.cells (f := fcell) (size := 1) (fun _ => rfl) (HrowM.out.below hw4r) k hkl
              simp only [Option.some.injEq, Addr.mk.injEq, and_true] at hab
              obtain ⟨rfl, rfl⟩ := hab
              have hc0 := hcc 0 (.string ⟨(M[k]).toArray⟩) rfl
              simp only [Nat.mul_one, Nat.add_zero, Nat.zero_add] at hc0
              obtain ⟨hne, hR2⟩ := Hhit.out _ (List.getElem_mem hkl)
              have hnx : hit n M[k] = false → ∀ (i : Nat) (m : List UInt8), i < k + 1 → M[i]? = some m → hit n m = false := by
                intro he i m hi hm
                by_cases e : i = k
                · subst e
                  rw [List.getElem?_eq_getElem hkl, Option.some.injEq] at hm
                  rw [← hm]; exact he
                · exact hall i m (by omega) hm
              obtain ⟨m, hm⟩ : ∃ m, m = M[k] := ⟨_, rfl⟩
              rw [← hm] at hc0 hne hR2 hnx
              clear hcc hall hm hkl
              by_cases hq : (m == n) = true
              · have hmn : m = n := eq_of_beq hq
                have hnn : n ≠ [] := by rw [← hmn]; exact hne
                have hRe : R = costN C := hR2 (by unfold hit; rw [hq]; cases n with | nil => exact absurd rfl hnn | cons _ _ => rfl)
                have hn1 : (n == []) = false := by rw [beq_eq_false_iff_ne]; exact hnn
                have HRe := Lib.hid hRe
                have cv := run_cost C
                clear hmn hnn hRe hR2 hnx hne
                go_wp2_with fail
                obtain ⟨hbyt, hbw⟩ := bytes_of wr 5 C (by have := Hdig.out.2.1; unfold maxLen; omega)
                obtain ⟨ws, hws⟩ : ∃ x, x = wr := ⟨wr, rfl⟩
                subst hws
                obtain ⟨wb, hwb⟩ : ∃ x, x = Lib.bytesWorld ws 5 ⟨C.toArray⟩ := ⟨_, rfl⟩
                rw [← hwb] at hbyt hbw ⊢
                have Hb := Lib.hid hbyt
                have hbr5 := Below.then hbr4 hbw
                obtain ⟨N, hN⟩ : ∃ N, N = C.length := ⟨_, rfl⟩
                have hN3 : N ≤ 3 := by rw [hN]; exact Hdig.out.2.1
                have Hdg : Hid (∀ i (hi : i < C.length), 48 ≤ C[i].toNat ∧ C[i].toNat ≤ 57 ∧ costN (C.take i) ≤ 500 ∧ costN (C.take (i + 1)) ≤ 500 ∧ costN (C.take (i + 1)) = costN (C.take i) * 10 + (C[i].toNat - 48)) := Lib.hid (fun i hi => by
                  have h1 := Hdig.out.1 _ (List.getElem_mem hi)
                  exact ⟨h1.1, h1.2, Hdig.out.2.2 i (by omega), Hdig.out.2.2 (i + 1) (by omega), cost_next C i hi⟩)
                rw [← hN]
                have HN := Lib.hid hN
                clear hwb hbyt hN cv
                go_loopw [57, 13] (fun ix s wr => ∃ i : Nat, i ≤ N ∧ ix = .int .i64 (i : Int) ∧ s = .int .u64 (costN (C.take i) : Int) ∧ Below wb.heap.size wb wr) (fun ix _ _ => N - (intOf ix).toNat)
                case atStart => exact ⟨0, by omega, rfl, rfl, Below.refl _ _⟩
                case round =>
                  obtain ⟨i, hii, rfl, rfl, hwbr⟩ := hrel
                  have hbr6 := Below.then hbr5 hwbr
                  by_cases hlt : i < N
                  · have hki : (i : Int) < (N : Int) := by omega
                    have hil : i < C.length := by rw [← HN.out]; exact hlt
                    obtain ⟨h1, h2, h3, h4, h5⟩ := Hdg.out i hil
                    obtain ⟨b2, o2, hab, hcc⟩ := RowOf.cells (f := b8) (size := 1) (fun _ => rfl) (Hb.out.below hwbr) i hil
                    simp only [Option.some.injEq, Addr.mk.injEq, and_true] at hab
                    obtain ⟨rfl, rfl⟩ := hab
                    have hc0 := hcc 0 (u8v (C[i])) rfl
                    simp only [Nat.mul_one, Nat.add_zero, Nat.zero_add] at hc0
                    obtain ⟨d, hd⟩ : ∃ d, d = C[i].toNat := ⟨_, rfl⟩
                    have hu8 : u8v C[i] = .int .u8 (d : Int) := by unfold u8v; rw [hd]
                    rw [hu8] at hc0
                    rw [← hd] at h1 h2 h5
                    obtain ⟨c, hc⟩ : ∃ c, c = costN (C.take i) := ⟨_, rfl⟩
                    rw [← hc] at h3 h5 ⊢
                    obtain ⟨c', hc'⟩ : ∃ c, c = costN (C.take (i + 1)) := ⟨_, rfl⟩
                    rw [← hc'] at h4 h5
                    have hw1 : IntKind.u64.wrap ((c : Int) * 10) = (c : Int) * 10 := IntWalk.u64_in _ (by omega)
                    have hw2 : IntKind.u8.wrap ((d : Int) - 48) = (d : Int) - 48 := IntWalk.u8_in _ (by omega)
                    have hw3 : IntKind.u64.wrap ((d : Int) - 48) = (d : Int) - 48 := IntWalk.u64_in _ (by omega)
                    have he : (c : Int) * 10 + ((d : Int) - 48) = (c' : Int) := by omega
                    have hw4 : IntKind.u64.wrap (c' : Int) = (c' : Int) := IntWalk.u64_in _ (by omega)
                    have Hc' := Lib.hid hc'
                    clear hc hd hu8 h5 h4 hcc hc' hlt hil
                    go_wp2_with fail
                    go_roundw
                    case rel => exact ⟨i + 1, by omega, by go_num, by rw [← Hc'.out], hwbr⟩
                    case measure => simp [intOf]; omega
                  · obtain rfl : i = N := by omega
                    have hRR : costN (C.take i) = R := by rw [HRe.out, HN.out, List.take_length]
                    rw [hRR]
                    clear hlt hRR
                    go_wp2_with fail
                    go_ret
                    exact ⟨rfl, hbr6⟩
              · have hq' : (m == n) = false := by simpa using hq
                have hnx' := Lib.hid (hnx (by unfold hit; rw [hq']; rfl))
                clear hnx hq hR2 hne
                go_wp2_with fail
                go_roundw
                case rel => exact ⟨k + 1, by omega, by go_num, hnx'.out, hw4r⟩
                case measure => simp [intOf]; omega
            · obtain rfl : k = L := by omega
              have hnx := Hnx2.out (fun m hm => by
                obtain ⟨i, hi⟩ := List.getElem?_of_mem hm
                exact hall i m (by rw [HL.out]; exact (List.getElem?_eq_some_iff.1 hi).1) hi)
              have hnx' := Lib.hid hnx
              have hb5 := Below.then hw2r (Below.then bw4 hw4r)
              clear hall hnx hlt
              go_wp2_with fail
              go_roundw
              case rel => exact ⟨j + 1, by omega, by go_num, hnx'.out, hb5⟩
              case measure => simp [intOf]; omega
        · obtain rfl : j = 15 := by omega
          have hRe : R = 0 := by rw [HR.out]; exact moP_none n H3.out hall
          subst hRe
          clear hall hlt
          go_wp2_with fail
          go_ret
          exact ⟨rfl, hbr⟩
end Go.Proofs.YtikndlkfmjhgdaaDoor
