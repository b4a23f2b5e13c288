/- The reference's SSum. -/
import Derived.Test.YtohenjgegkgncaaSum2
import Derived.Test.YtohenjgegkgncaaRow
set_option linter.unusedSimpArgs false
set_option linter.unusedVariables false
namespace Go.Proofs.Ytohenjgegkgncaa
open Go.RowKit
/-- what the text comes to -/
def sumB (l : List UInt8) : List UInt8 := outB (stB (padL l) ((padL l).length / 32))
theorem padL_len (l : List UInt8) : (padL l).length = l.length + 2 + padZ l.length := by simp [padL]; omega
theorem padL_mod (l : List UInt8) : (padL l).length % 32 = 0 := by rw [padL_len]; unfold padZ; omega
theorem OwnOf.inBlk {e : TypeId} {w : World} {B n c : Nat} {a : Option Addr} {l : List UInt8} (h : OwnOf b8 1 e w B (.slice a n c) l) (hn : 0 < n) :
    ∃ g cur, a = some ⟨g, 0, none⟩ ∧ B ≤ g ∧ Blk e w g cur ∧ ∀ (k : Nat) (x : UInt8), l[k]? = some x → cur[k]? = some (.int .u8 (x.toNat : Int)) := by
  obtain ⟨h1, h2⟩ := h
  rcases h2 with ⟨h2, h3⟩ | ⟨g', cap, cur, h2, h3, h4, h5, h6, h7, h8⟩
  · simp only [Value.slice.injEq] at h2; omega
  · simp only [Value.slice.injEq] at h2
    obtain ⟨rfl, rfl, rfl⟩ := h2
    refine ⟨g', cur.toList, rfl, h3, by unfold Blk; simpa using h4, fun k x hx => ?_⟩
    rw [flat_b8, Nat.mul_one] at h8
    have h9 : (l.map u8v)[k]? = some (u8v x) := by rw [List.getElem?_map, hx]; rfl
    rw [← h8, List.getElem?_take] at h9
    split at h9
    · exact h9
    · cases h9
def zh : List Value := List.replicate 32 (.int .u8 0)
theorem aggHash' : Agg Try.prog 46 32 := ⟨_, Try.underlying46, rfl, by kernel_rfl⟩
def ocs (st : List Int) : List Value := (outB st).map u8v
theorem ocs_len (st : List Int) : (ocs st).length = 32 := by simp [ocs, outB_len]
theorem ocs_one (st : List Int) : ∀ u ∈ ocs st, u.oneCell' = true := by
  intro u hu
  obtain ⟨x, _, rfl⟩ := List.mem_map.1 hu
  rfl
theorem ocs_at (st : List Int) (k : Nat) (hk : k < 32) : (ocs st)[k]? = some (u8v (UInt8.ofNat ((st[k / 8]?.getD 0).toNat / 2 ^ (8 * (k % 8))))) := by
  unfold ocs
  rw [List.getElem?_map, outB_at st k hk]; rfl
/-- The result's block, the state's, the padded text's. -/
structure FrP (w : World) (gP : Nat) (cur : List Value) (S : List Int) (u : World) : Prop where
  z : Blk 46 u w.heap.size zh
  s : Blk 134 u (w.heap.size + 1) (u64s S)
  p : Blk 5 u gP cur
  bel : Below w.heap.size w u
theorem FrP.kept {w u u' : World} {gP : Nat} {cur : List Value} {S : List Int} (h : FrP w gP cur S u) (hb : Below u.heap.size u u') : FrP w gP cur S u' := ⟨h.z.kept hb, h.s.kept hb, h.p.kept hb, h.bel.trans (hb.mono h.bel.size)⟩
theorem FrP.set {w u : World} {gP : Nat} {cur : List Value} {S S' : List Int} (h : FrP w gP cur S u) (hg : w.heap.size + 2 ≤ gP) (k : Nat) (x : Value) (hs : (u64s S).set k x = u64s S') : FrP w gP cur S' (u.setCell ⟨w.heap.size + 1, k, none⟩ x) :=
  ⟨h.z.other _ (by simp) _, hs ▸ h.s.set k x, h.p.other _ (by simp; omega) _, h.bel.setCell (by simp) _⟩
theorem FrP.put {w u u' : World} {gP : Nat} {cur : List Value} {S S' : List Int} (h : FrP w gP cur S u) (hg : w.heap.size + 2 ≤ gP) (ho : Blk 134 u' (w.heap.size + 1) (u64s S')) (hb : Below (w.heap.size + 1) u u') (hr : u.grownBy u' (some (w.heap.size + 1))) : FrP w gP cur S' u' :=
  ⟨h.z.grown hr (by simp), ho, h.p.grown hr (by simp; omega), h.bel.trans (hb.mono (by omega))⟩
set_option maxHeartbeats 1000000 in
set_option maxRecDepth 100000 in
theorem ssum_any (a : Option Addr) (n c : Nat) (l : List UInt8) (hn : l.length = n) (w : World) (h : Bytes w (.slice a n c) l) (hl : n + 64 ≤ 140737488355328) :
    Calls Try.prog 32 #[.slice a n c] w fun e w' => e = .returned (.agg ((sumB l).map u8v).toArray) ∧ Below w.heap.size w w' := by
  obtain ⟨w1, hw1⟩ : ∃ w1, w1 = (w.alloc (.cells zh.toArray 46)).alloc (.cells z8.toArray 134) := ⟨_, rfl⟩
  have hz1 : Blk 46 w1 w.heap.size zh := by rw [hw1]; exact (Blk.new w 46 zh).alloc _
  have hs1 : Blk 134 w1 (w.heap.size + 1) (u64s (stB (padL l) 0)) := by
    have := Blk.new (w.alloc (.cells zh.toArray 46)) 134 z8
    have h2 : Blk 134 ((w.alloc (.cells zh.toArray 46)).alloc (.cells z8.toArray 134)) (w.heap.size + 1) z8 := by simpa using this
    rw [hw1]; exact h2
  have hbel1 : Below w.heap.size w w1 := by rw [hw1]; exact ((Below.refl _ _).alloc (Nat.le_refl _) _).alloc (by simp) _
  have hsz1 : w1.heap.size = w.heap.size + 2 := by rw [hw1]; simp
  obtain ⟨P, hP⟩ : ∃ P, P = padL l := ⟨_, rfl⟩
  obtain ⟨N, hN⟩ : ∃ N, N = P.length := ⟨_, rfl⟩
  have hN32 : N % 32 = 0 := by rw [hN, hP]; exact padL_mod l
  have hNb : N ≤ 140737488355400 := by rw [hN, hP, padL_len]; unfold padZ; omega
  have hNpos : 0 < N := by rw [hN, hP, padL_len]; omega
  have cpad : ∀ w', Bytes w' (.slice a n c) l → Calls Try.prog 88 #[.slice a n c] w' fun e w2 => ∃ (gP : Nat) (cur : List Value) (c2 : Nat), e = .returned (.slice (some ⟨gP, 0, none⟩) N c2) ∧ w'.heap.size ≤ gP ∧ Blk 5 w2 gP cur ∧ (∀ (k : Nat) (x : UInt8), P[k]? = some x → cur[k]? = some (.int .u8 (x.toNat : Int))) ∧ Below w'.heap.size w' w2 := by
    intro w' h'
    subst hn
    refine (spad_own a c l w' h' hl).mono ?_
    rintro e w2 ⟨v, rfl, h2, h3⟩
    obtain ⟨a2, c2, rfl, _⟩ := h2.form' N (by rw [hN, hP])
    obtain ⟨gP, cur, rfl, q1, q2, q3⟩ := h2.inBlk hNpos
    exact ⟨gP, cur, c2, rfl, q1, q2, by rw [hP]; exact q3, h3⟩
  have hPl : ∀ k, k < N → ∃ x, P[k]? = some x := fun k hk => ⟨_, List.getElem?_eq_getElem (by rw [← hN]; exact hk)⟩
  rw [← hP] at hs1
  have Hw1 := Lib.hid hw1
  have HP := Lib.hid hP
  have HN := Lib.hid hN
  have Hpad := Lib.hid cpad
  have HPl := Lib.hid hPl
  clear hw1 hP hN cpad hPl
  go_enter Try.func32, Try.ntmps32
  go_wp2_with (go_at_call 88; (have hcall := Hpad.out w1 (h.below hbel1)); rw [Hw1.out] at hcall; refine hcall.mono ?_; rintro e w2 ⟨gP, cur, c2, rfl, q1, q2, q3, b2⟩; rw [← Hw1.out] at q1 b2; clear hcall)
  have F0 : FrP w gP cur (stB P 0) w2 := ⟨hz1.kept b2, hs1.kept b2, q2, hbel1.trans (b2.mono hbel1.size)⟩
  have hgP : w.heap.size + 2 ≤ gP := by omega
  have Q3 := Lib.hid q3
  clear q1 q2 q3 b2 hz1 hs1 hbel1 hsz1 h
  go_loopw [5] (fun ix wr => ∃ m A : Nat, A = 32 * m ∧ A ≤ N ∧ ix = .int .i64 (A : Int) ∧ FrP w gP cur (stB P m) wr) (fun ix _ => N - (intOf ix).toNat)
  case atStart => exact ⟨0, 0, rfl, by omega, rfl, F0⟩
  case round =>
    clear F0
    obtain ⟨m, A, hA, hAN, rfl, hF⟩ := hrel
    have HA := Lib.hid hA
    have hSt := stB_St P m
    by_cases hlt : A < N
    · have hlti : (A : Int) < (N : Int) := by omega
      have hA32 : A + 32 ≤ N := by omega
      obtain ⟨S0, hS0⟩ : ∃ S0, S0 = stB P m := ⟨_, rfl⟩
      rw [← hS0] at hF hSt
      have HS0 := Lib.hid hS0
      rw [← absK_zero hSt (P.drop A)] at hF
      clear hA hS0
      go_wp2
      obtain ⟨wo, rfl⟩ : ∃ wo : World, wo = wr := ⟨_, rfl⟩
      go_loopw [17] (fun ix wi => ∃ k : Nat, k ≤ 32 ∧ ix = .int .i64 (k : Int) ∧ FrP w gP cur (absK S0 (P.drop A) k) wi) (fun ix _ => 32 - (intOf ix).toNat)
      case atStart => exact ⟨0, by omega, rfl, hF⟩
      case round =>
        clear hF
        obtain ⟨k, hk, rfl, hF⟩ := hrel
        by_cases hlk : k < 32
        · obtain ⟨q, hq⟩ : ∃ q, q = k / 8 := ⟨_, rfl⟩
          obtain ⟨r, hr⟩ : ∃ r, r = k % 8 := ⟨_, rfl⟩
          obtain ⟨s, hs⟩ : ∃ s, s = 8 * r := ⟨_, rfl⟩
          obtain ⟨j, hj⟩ : ∃ j, j = A + k := ⟨_, rfl⟩
          obtain ⟨x, hx⟩ := HPl.out j (by omega)
          have hstep := absK_step hSt (P.drop A) k q r hlk hq hr
          have hdx : (P.drop A)[k]?.getD 0 = x := by rw [List.getElem?_drop, ← hj, hx]; rfl
          have hup := byte_up x r (by omega)
          rw [hdx, ← hs] at hstep
          rw [← hs] at hup
          have hsh := wrap_up x.toNat s hup
          have hwx := wrap_u8u64 x
          have hstk := absK_St S0 (P.drop A) k
          have hcs := (hF.s.cell q).trans (u64s_at hstk q (by omega))
          have hcp := (hF.p.cell j).trans (Q3.out j x hx)
          obtain ⟨z, hz⟩ : ∃ z, z = (absK S0 (P.drop A) k)[q]?.getD 0 := ⟨_, rfl⟩
          obtain ⟨y, hy⟩ : ∃ y, y = x.toNat * 2 ^ s := ⟨_, rfl⟩
          rw [← hz] at hstep hcs
          rw [← hy] at hstep hsh
          have hki : (k : Int) < 32 := by omega
          have e1 : (k : Int) / 8 = (q : Int) := by omega
          have e1t : (k : Int).tdiv 8 = (q : Int) := by rw [Int.tdiv_eq_ediv_of_nonneg (by omega)]; exact e1
          have e2 : (k : Int) % 8 = (r : Int) := by omega
          have e2t : (k : Int).tmod 8 = (r : Int) := by rw [Int.tmod_eq_emod_of_nonneg (by omega)]; exact e2
          have e3 : (r : Int) * 8 = (s : Int) := by omega
          have e4 : (A : Int) + (k : Int) = (j : Int) := by omega
          have w1' : IntKind.i64.wrap (q : Int) = (q : Int) := IntWalk.i64_in _ (by omega)
          have w2' : IntKind.i64.wrap (r : Int) = (r : Int) := IntWalk.i64_in _ (by omega)
          have w3' : IntKind.i64.wrap (s : Int) = (s : Int) := IntWalk.i64_in _ (by omega)
          have w4' : IntKind.i64.wrap (j : Int) = (j : Int) := IntWalk.i64_in _ (by omega)
          have hq8 : (q : Int) < 8 := by omega
          have hq8' : q < 8 := by omega
          have hjN : (j : Int) < (N : Int) := by omega
          have hjN' : j < N := by omega
          have hs64 : (s : Int) ≤ 56 := by omega
          have hxb := u8_lt x
          have k0 := fun u : Ext wr => u.cell hcs
          have k1 := fun u : Ext wr => u.cell hcp
          have Hstep := Lib.hid hstep
          have H8 := Lib.hid hstk.1
          clear hstep hz hy hs hr hq hj hx hdx hup hcs hcp hstk
          go_wp2
          refine wp_region_typed wr 17 (by kernel_rfl) (by kernel_rfl) (Below.refl _ _) ?_; simp only [List.take_succ_cons, List.take_zero, List.take_nil]
          iterate 17 (refine wpX_step (by rfl) (fun K hK => ?_); go_simp; first | (refine hK _ ?_; clear hK K) | (apply Exists.intro; refine ⟨fun _ => ?_, hK _ ?_⟩; fail; clear hK K))
          refine wpX_nil ?_
          intro u2 hb2
          change wpList _ _ _ [_] _ _
          have hF2 := hF.kept hb2
          obtain ⟨y1, hy1⟩ := hF2.s.has q (by simp [u64s, absK_len]; omega)
          have hf1 := hF2.s.free q
          have hF3 := hF2.set hgP q (.int .u64 (bits .xor .u64 z (y : Int))) (by rw [u64s_set, Hstep.out])
          clear k0 k1 hF hF2
          go_wp2
          go_roundw
          case rel => exact ⟨k + 1, by omega, by go_num, hF3⟩
          case measure => simp [intOf]; omega
        · obtain rfl : k = 32 := by omega
          have hstk := absK_St S0 (P.drop A) 32
          obtain ⟨S, hS⟩ : ∃ S, S = absK S0 (P.drop A) 32 := ⟨_, rfl⟩
          rw [← hS] at hF hstk
          obtain ⟨M, hM⟩ : ∃ M, M = mixL S 12 := ⟨_, rfl⟩
          have hMst : St M := by rw [hM]; exact hstk.mix 12
          have hfin : M = stB P (m + 1) := by rw [hM, hS, HS0.out, HA.out]; rfl
          have cm : ∀ w, Calls Try.prog 89 #[.agg (u64s S).toArray] w fun e w' => e = .returned (.agg (u64s M).toArray) ∧ Below w.heap.size w w' := fun w => by rw [hM]; exact smix_any S hstk w
          have Cm := Lib.hid cm
          have Hfin := Lib.hid hfin
          have H8 := Lib.hid (u64s_len hstk)
          have H8M := Lib.hid (u64s_len hMst)
          clear hS hM cm hfin
          go_wp2_with (first
            | (refine wpList_loadA (o := ⟨some 38, _, _, _, _, _⟩) (by rfl) 134 (.tmp 3) (by rfl) (w.heap.size + 1) (by rfl) aggState hF.s H8.out ?_)
            | (go_at_call 89; (with_reducible refine (Cm.out _).mono ?_); rintro e u2 ⟨rfl, b2⟩; have hF2 := hF.kept b2)
            | (refine wpList_storeA (by rfl) 134 (.tmp 3) (.tmp 39) (by rfl) (w.heap.size + 1) (u64s M) (by rfl) (by rfl) aggState hF2.s H8M.out H8.out (u64s_one _) (Below.refl _ _) (Nat.le_refl _) ?_; intro u3 ho3 hb3 hg3; have hF3 := hF2.put hgP ho3 hb3 hg3))
          rw [Hfin.out] at hF3
          have e32 : (A : Int) + 32 = ((A + 32 : Nat) : Int) := by omega
          go_roundw
          case rel => exact ⟨m + 1, A + 32, by have := HA.out; omega, by omega, by go_num, hF3⟩
          case measure => simp [intOf]; omega
    · have hm : m = N / 32 := by omega
      obtain ⟨S, hS⟩ : ∃ S, S = stB P m := ⟨_, rfl⟩
      rw [← hS] at hF hSt
      have hT : ocs S = (sumB l).map u8v := by
        unfold ocs sumB
        rw [hS, hm, HN.out, HP.out]
      have HT := Lib.hid hT
      have hTn := ocs_len S
      have hTi := fun k hk => ocs_at S k hk
      obtain ⟨T, hTT⟩ : ∃ T, T = ocs S := ⟨_, rfl⟩
      rw [← hTT] at hT hTn
      simp only [← hTT] at hTi
      have HTT := Lib.hid hTT
      have HTn := Lib.hid hTn
      have HTi := Lib.hid hTi
      have hd : ¬ ((A : Int) < (N : Int)) := by omega
      have hblk := Blk.new wr 46 zh
      have hF1 := hF.kept ((Below.refl wr.heap.size wr).alloc (Nat.le_refl _) (.cells zh.toArray 46))
      obtain ⟨g7, hg7⟩ : ∃ g7, g7 = wr.heap.size := ⟨_, rfl⟩
      have hs7 := hF.s.lt
      have hp7 := hF.p.lt
      rw [← hg7] at hblk hs7 hp7
      have Hg7 := Lib.hid hg7
      have H8 := Lib.hid hSt.1
      have hzf : zh = fillL T (.int .u8 0) 0 := by rw [fill_zero, HTn.out]; rfl
      clear hT hTT hTn hTi hS hm hg7 hF hA
      go_wp2
      rw [show wr.heap.size = g7 from Hg7.out.symm]
      clear Hg7
      go_loopw [40] (fun ix wi => ∃ k : Nat, k ≤ 32 ∧ ix = .int .i64 (k : Int) ∧ Blk 46 wi g7 (fillL T (.int .u8 0) k) ∧ FrP w gP cur S wi) (fun ix _ => 32 - (intOf ix).toNat)
      case atStart => exact ⟨0, by omega, rfl, by rw [← hzf]; exact hblk, hF1⟩
      case round =>
        clear hblk hF1 hzf
        obtain ⟨k, hk, rfl, hb, hF⟩ := hrel
        by_cases hlk : k < 32
        · obtain ⟨q, hq⟩ : ∃ q, q = k / 8 := ⟨_, rfl⟩
          obtain ⟨r, hr⟩ : ∃ r, r = k % 8 := ⟨_, rfl⟩
          obtain ⟨s, hs⟩ : ∃ s, s = 8 * r := ⟨_, rfl⟩
          have hTk := HTi.out k hlk
          rw [← hq, ← hr, ← hs] at hTk
          have hcs := (hF.s.cell q).trans (u64s_at hSt q (by omega))
          obtain ⟨z, hz, hz64⟩ := inU_nat (hSt.get q (by omega))
          rw [hz] at hTk hcs
          rw [Int.toNat_natCast] at hTk
          obtain ⟨y, hy⟩ : ∃ y, y = z / 2 ^ s := ⟨_, rfl⟩
          have ey : (z : Int) / 2 ^ s = (y : Int) := by rw [hy]; simp
          rw [← hy] at hTk
          have hwy := wrap_u8n y
          obtain ⟨v, hv⟩ : ∃ v, v = UInt8.ofNat y := ⟨_, rfl⟩
          rw [← hv] at hTk hwy
          have hki : (k : Int) < 32 := by omega
          have e1 : (k : Int) / 8 = (q : Int) := by omega
          have e2 : (k : Int) % 8 = (r : Int) := by omega
          have e3 : (r : Int) * 8 = (s : Int) := by omega
          have hq8 : (q : Int) < 8 := by omega
          have hq8' : q < 8 := by omega
          have hs64 : (s : Int) ≤ 56 := by omega
          obtain ⟨y1, hy1⟩ := hb.has k (by rw [fill_len _ _ _ (by rw [HTn.out]; omega), HTn.out]; exact hlk)
          have hf1 := hb.free k
          have hset := hb.set k (u8v v)
          rw [fill_set' T _ k _ hTk] at hset
          have hF2 : FrP w gP cur S (wr.setCell ⟨g7, k, none⟩ (u8v v)) := ⟨hF.z.other _ (by show g7 ≠ _; omega) _, hF.s.other _ (by show g7 ≠ _; omega) _, hF.p.other _ (by show g7 ≠ _; omega) _, hF.bel.setCell (by show w.heap.size ≤ g7; omega) _⟩
          clear hTk hz hy hv hs hr hq hb hF
          go_wp2
          go_roundw
          case rel => exact ⟨k + 1, by omega, by go_num, hset, hF2⟩
          case measure => simp [intOf]; omega
        · obtain rfl : k = 32 := by omega
          have hfe := fill_end T (.int .u8 0)
          rw [HTn.out] at hfe
          rw [hfe, HTT.out] at hb
          clear hfe
          go_wp2_with (first
            | (refine wpList_loadA (o := ⟨some 55, _, _, _, _, _⟩) (by rfl) 46 (.tmp 7) (by rfl) g7 (by rfl) aggHash' hb (ocs_len _) ?_)
            | (refine wpList_storeA (by rfl) 46 (.tmp 2) (.tmp 55) (by rfl) w.heap.size (ocs S) (by rfl) (by rfl) aggHash' hF.z (ocs_len _) (by rfl) (ocs_one _) (Below.refl _ _) (Nat.le_refl _) ?_; intro u3 ho3 hb3 hg3; have hbel3 := hF.bel.trans hb3))
          exact bodyPost_ret (results_blk rfl _ _ w.heap.size aggHash' ho3 (ocs_len _) rfl) rfl ⟨by rw [← HT.out], hbel3⟩
end Go.Proofs.Ytohenjgegkgncaa
