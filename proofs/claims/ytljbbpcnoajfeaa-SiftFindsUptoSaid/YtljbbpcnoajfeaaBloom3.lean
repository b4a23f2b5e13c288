/- bloom.Of. -/
import Derived.Test.YtljbbpcnoajfeaaBloom2
import Derived.Test.YtljbbpcnoajfeaaSeach2
import Derived.Test.YtljbbpcnoajfeaaBase
set_option linter.unusedSimpArgs false
set_option linter.unusedVariables false
namespace Go.Proofs.Ytljbbpcnoajfeaa
open Go.RowKit
/-- is that bit one of a text's? of some text's? -/
def hasT (l : List UInt8) (m : Nat) : Bool := (trip l).any fun x => x.toNat == m
def hasB (ps : List (Value × List UInt8)) (m : Nat) : Bool := ps.any fun p => hasT p.2 m
theorem hasB_succ (ps : List (Value × List UInt8)) (k : Nat) (p : Value × List UInt8) (h : ps[k]? = some p) (m : Nat) : hasB (ps.take (k + 1)) m = (hasB (ps.take k) m || hasT p.2 m) := by
  have hk := (List.getElem?_eq_some_iff.1 h).1
  have he := (List.getElem?_eq_some_iff.1 h).2
  unfold hasB
  rw [List.take_succ_eq_append_getElem hk, List.any_append, he]; simp
theorem hasT_step (T : List UInt8) (j : Nat) (x : UInt8) (h : T[j]? = some x) (m : Nat) : ((T.take (j + 1)).any fun x => x.toNat == m) = (((T.take j).any fun x => x.toNat == m) || decide (m = x.toNat)) := by
  have hk := (List.getElem?_eq_some_iff.1 h).1
  have he := (List.getElem?_eq_some_iff.1 h).2
  rw [List.take_succ_eq_append_getElem hk, List.any_append, he]
  congr 1
  simp only [List.any_cons, List.any_nil, Bool.or_false]
  rw [Bool.eq_iff_iff]
  simp only [beq_iff_eq, decide_eq_true_eq]
  exact ⟨fun h => h.symm, fun h => h.symm⟩
/-- one bit more, as the walk writes it -/
structure BitStep (F : List UInt8) (n q r y : Nat) (x z : UInt8) : Prop where
  hx : F[q]? = some x
  hq : q < 32
  hr : r < 8
  e1 : (n : Int) / 8 = (q : Int)
  e2 : (n : Int) % 8 = (r : Int)
  e1t : (n : Int).tdiv 8 = (q : Int)
  e2t : (n : Int).tmod 8 = (r : Int)
  hs : IntKind.u8.wrap ((2 : Int) ^ r) = (y : Int)
  hs1 : IntKind.u8.wrap (1 * (2 : Int) ^ r) = (y : Int)
  hor : bits .or .u8 (x.toNat : Int) (y : Int) = (z.toNat : Int)
  hset : (fcs F).set q (.int .u8 (z.toNat : Int)) = fcs (orF F n)
  hy : y = 2 ^ r
  hz : z.toNat = x.toNat ||| 2 ^ r
  hnr : r = n % 8
  hnq : q = n / 8
theorem bitStep (F : List UInt8) (hl : F.length = 32) (n : Nat) (hn : n < 256) : ∃ q r y x z, BitStep F n q r y x z := by
  obtain ⟨x, hx⟩ := byte_at hl n hn
  have hr : n % 8 < 8 := Nat.mod_lt _ (by omega)
  have hlt := or_lt x (n % 8) hr
  have h2 : 2 ^ (n % 8) < 256 := by
    have : 2 ^ (n % 8) < 2 ^ 8 := Nat.pow_lt_pow_right (by omega) hr
    exact this
  have hz : (UInt8.ofNat (x.toNat ||| 2 ^ (n % 8))).toNat = x.toNat ||| 2 ^ (n % 8) := by rw [UInt8.toNat_ofNat', Nat.mod_eq_of_lt hlt]
  have hw : IntKind.u8.wrap ((2 : Int) ^ (n % 8)) = ((2 ^ (n % 8) : Nat) : Int) := by
    have e : ((2 : Int) ^ (n % 8)) = ((2 ^ (n % 8) : Nat) : Int) := by simp
    rw [e]
    generalize 2 ^ (n % 8) = y at *
    exact IntWalk.u8_in _ (by omega)
  refine ⟨n / 8, n % 8, 2 ^ (n % 8), x, UInt8.ofNat (x.toNat ||| 2 ^ (n % 8)), hx, by omega, hr, by omega, by omega, ?_, ?_, hw, by rw [Int.one_mul]; exact hw, ?_, ?_, rfl, hz, rfl, rfl⟩
  · rw [Int.tdiv_eq_ediv_of_nonneg (by omega)]; omega
  · rw [Int.tmod_eq_emod_of_nonneg (by omega)]; omega
  · rw [u8_or_nat x.toNat (2 ^ (n % 8)) x.toNat_lt h2, hz]
  · rw [orF_at F n x hx]
    unfold fcs
    rw [List.map_set]
    rfl
set_option maxHeartbeats 1000000 in
set_option maxRecDepth 100000 in
theorem of_any (a : Option Addr) (n c : Nat) (ps : List (Value × List UInt8)) (hn : ps.length = n) (w : World) (h : Texts w (.slice a n c) ps) :
    Calls Try.prog 101 #[.slice a n c] w fun e w' => e = .returned (.agg (fcs (mkF (hasB ps) 256)).toArray) ∧ Below w.heap.size w w' := by
  have hz1 : Blk 43 ((w.alloc (.cells zh.toArray 43)).alloc (.cells zh.toArray 43)) w.heap.size zh := (Blk.new w 43 zh).alloc _
  have hf1 : Blk 43 ((w.alloc (.cells zh.toArray 43)).alloc (.cells zh.toArray 43)) (w.heap.size + 1) (fcs (List.replicate 32 0)) := by
    have := Blk.new (w.alloc (.cells zh.toArray 43)) 43 zh
    rw [show fcs (List.replicate 32 0) = zh from rfl]
    simpa using this
  have hbel1 : Below w.heap.size w ((w.alloc (.cells zh.toArray 43)).alloc (.cells zh.toArray 43)) := ((Below.refl _ _).alloc (Nat.le_refl _) _).alloc (by simp) _
  have hsm := h.1.small
  unfold maxLen at hsm
  rw [hn] at hsm
  have Hn := Lib.hid hn
  clear hn
  go_enter Try.func101, Try.ntmps101
  go_wp2
  go_loopw [10] (fun ix wr => ∃ k : Nat, k ≤ n ∧ ix = .int .i64 (k : Int) ∧ ∃ F : List UInt8, F.length = 32 ∧ Hid (∀ m, m < 256 → fb F m = hasB (ps.take k) m) ∧ Blk 43 wr (w.heap.size + 1) (fcs F) ∧ Blk 43 wr w.heap.size zh ∧ Below w.heap.size w wr) (fun ix _ => n - (intOf ix).toNat)
  case atStart => exact ⟨0, by omega, rfl, List.replicate 32 0, by simp, Lib.hid (fun m _ => by rw [fb_zero]; simp [hasB]), hf1, hz1, hbel1⟩
  case round =>
    clear hz1 hf1 hbel1
    obtain ⟨k, hk, rfl, F, hF, hfb, hB, hz, hbel⟩ := hrel
    by_cases hlt : k < n
    · have hki : (k : Int) < (n : Int) := by omega
      obtain ⟨b, off, p, rfl, hp, hc, hb⟩ := Texts.at (h.below hbel) k (by rw [Hn.out]; exact hlt)
      have hss := hasB_succ ps k p hp
      obtain ⟨pv, pl⟩ := p
      simp only at hc hb hss
      obtain ⟨pa, pc, rfl, _, _⟩ := hb.form
      obtain ⟨pn, hpn⟩ : ∃ pn, pn = pl.length := ⟨_, rfl⟩
      rw [← hpn] at hc hb
      have cb := fun x h => bits_any pa pn pc pl hpn.symm x h
      have htl := trip_len pl
      unfold hasT at hss
      obtain ⟨T, hT⟩ : ∃ T, T = trip pl := ⟨_, rfl⟩
      simp only [← hT] at cb htl hss
      have hix : ∀ (j : Nat) (x : UInt8), T[j]? = some x → ∀ w', (Instr.index 210 (.agg (T.map u8v).toArray) (.int .i64 (j : Int))).run Try.prog w' = .ok (.int .u8 (x.toNat : Int)) w' := by
        intro j x hx w'
        have hj := (List.getElem?_eq_some_iff.1 hx).1
        have he := (List.getElem?_eq_some_iff.1 hx).2
        have e1 : T.map u8v = (T.map fun x => (x.toNat : Int)).map (Value.int .u8) := by rw [List.map_map]; rfl
        have hp := run_part_int (P := Try.prog) w' Try.underlying5 (T.map fun x => (x.toNat : Int)) j (by rw [List.length_map]; exact hj)
        rw [← e1, List.getElem_map, he] at hp
        exact run_index_agg (n := 3) (e := 5) (by kernel_rfl) (by kernel_rfl) _ j (by omega) w' .i64 hp
      have Cb := Lib.hid cb
      have Hss := Lib.hid hss
      have Hix := Lib.hid hix
      clear cb hss hix hT hp hpn
      go_wp2_with (go_at_call 126; refine (Cb.out _ hb).mono ?_; rintro e w2 ⟨rfl, b2⟩; have hB2 := hB.kept b2; have hz2 := hz.kept b2; have hbel2 := Below.then hbel b2)
      obtain ⟨wo, rfl⟩ : ∃ wo : World, wo = w2 := ⟨_, rfl⟩
      go_loopw [16] (fun ix wi => ∃ j : Nat, j ≤ 3 ∧ ix = .int .i64 (j : Int) ∧ ∃ G : List UInt8, G.length = 32 ∧ Hid (∀ m, m < 256 → fb G m = (hasB (ps.take k) m || (T.take j).any fun x => x.toNat == m)) ∧ Blk 43 wi (w.heap.size + 1) (fcs G) ∧ Blk 43 wi w.heap.size zh ∧ Below w.heap.size w wi) (fun ix _ => 3 - (intOf ix).toNat)
      case atStart => exact ⟨0, by omega, rfl, F, hF, Lib.hid (fun m hm => by rw [hfb.out m hm]; simp), hB2, hz2, hbel2⟩
      case round =>
        clear hB2 hz2 hbel2 hB hz hbel hfb hF b2 hb hc
        obtain ⟨j, hj, rfl, G, hG, hfb, hB, hz, hbel⟩ := hrel
        by_cases hlj : j < 3
        · have hji : (j : Int) < 3 := by omega
          obtain ⟨t, ht⟩ : ∃ t, T[j]? = some t := ⟨_, List.getElem?_eq_getElem (by omega)⟩
          have hi1 := Hix.out j t ht
          have hst := hasT_step T j t ht
          have htl2 := t.toNat_lt
          have h256 : t.toNat < 256 := t.toNat_lt
          obtain ⟨q, r, y, x, z, hb⟩ := bitStep G hG t.toNat h256
          have hc := (hB.cell q).trans (fcs_at hb.hx)
          have hfr := hB.free q
          have hG2 : (orF G t.toNat).length = 32 := by rw [orF_len, hG]
          have hB2 := hB.set q (.int .u8 (z.toNat : Int))
          rw [hb.hset] at hB2
          have hz2 : Blk 43 (wr.setCell ⟨w.heap.size + 1, q, none⟩ (.int .u8 (z.toNat : Int))) w.heap.size zh := hz.other _ (by simp) _
          have hbel2 := hbel.setCell (p := ⟨w.heap.size + 1, q, none⟩) (by simp) (.int .u8 (z.toNat : Int))
          have hfb2 : Hid (∀ m, m < 256 → fb (orF G t.toNat) m = (hasB (ps.take k) m || (T.take (j + 1)).any fun x => x.toNat == m)) := Lib.hid (fun m hm => by
            rw [fb_or G t.toNat m hG h256, hfb.out m hm, hst m, Bool.or_assoc])
          obtain ⟨e1, e2, e1t, e2t, hs, hs1, hor, hq, hr⟩ : (t.toNat : Int) / 8 = (q : Int) ∧ (t.toNat : Int) % 8 = (r : Int) ∧ (t.toNat : Int).tdiv 8 = (q : Int) ∧ (t.toNat : Int).tmod 8 = (r : Int) ∧ IntKind.u8.wrap ((2 : Int) ^ r) = (y : Int) ∧ IntKind.u8.wrap (1 * (2 : Int) ^ r) = (y : Int) ∧ bits .or .u8 (x.toNat : Int) (y : Int) = (z.toNat : Int) ∧ q < 32 ∧ r < 8 := ⟨hb.e1, hb.e2, hb.e1t, hb.e2t, hb.hs, hb.hs1, hb.hor, hb.hq, hb.hr⟩
          have hqi : (q : Int) < 32 := by omega
          have hri : (r : Int) ≤ 7 := by omega
          clear hst ht hb hB hz hbel hfb hG
          go_wp2
          go_roundw
          case rel => exact ⟨j + 1, by omega, by go_num, orF G t.toNat, hG2, hfb2, hB2, hz2, hbel2⟩
          case measure => simp [intOf]; omega
        · obtain rfl : j = 3 := by omega
          have e3 : T.take 3 = T := List.take_of_length_le (by omega)
          have hfb2 : Hid (∀ m, m < 256 → fb G m = hasB (ps.take (k + 1)) m) := Lib.hid (fun m hm => by
            rw [hfb.out m hm, Hss.out m, e3])
          clear hfb e3
          go_wp2
          go_roundw
          case rel => exact ⟨k + 1, by omega, by go_num, G, hG, hfb2, hB, hz, hbel⟩
          case measure => simp [intOf]; omega
    · obtain rfl : k = n := by omega
      have hE : fcs F = fcs (mkF (hasB ps) 256) := by
        rw [mkF_is hF (fun m hm => by rw [hfb.out m hm, ← Hn.out, List.take_length])]
      rw [hE] at hB
      have hcl : (fcs (mkF (hasB ps) 256)).length = 32 := fcs_len (mkF_len _ _)
      have hco := fcs_one (mkF (hasB ps) 256)
      obtain ⟨C, hC⟩ : ∃ C, C = fcs (mkF (hasB ps) 256) := ⟨_, rfl⟩
      rw [← hC] at hB hcl hco
      have HC := Lib.hid hC
      have Hcl := Lib.hid hcl
      have Hco := Lib.hid hco
      clear hcl hco hE hfb hF hC
      go_wp2_with (first
        | (refine wpList_loadA (o := ⟨some 30, _, _, _, _, _⟩) (by rfl) 43 (.tmp 3) (by rfl) (w.heap.size + 1) (by rfl) aggHash' hB Hcl.out ?_)
        | (refine wpList_storeA (o := ⟨none, _, _, _, _, _⟩) (by rfl) 43 (.tmp 2) (.tmp 30) (by rfl) w.heap.size C (by rfl) (by rfl) aggHash' hz Hcl.out (by rfl) Hco.out (Below.refl _ _) (Nat.le_refl _) ?_; intro w4 hh4 _ hg4; have hbel4 := hbel.grown hg4 hbel.size (fun j hj => by cases hj; omega)))
      exact bodyPost_ret (results_blk rfl _ _ w.heap.size aggHash' hh4 Hcl.out rfl) rfl ⟨by rw [HC.out], hbel4⟩
end Go.Proofs.Ytljbbpcnoajfeaa
