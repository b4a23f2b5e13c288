/- (Hasher).Sum, sponge.Sum. -/
import Derived.Test.YtohenjgegkgncaaSum4
import Derived.Test.YtohenjgegkgncaaSum6
set_option linter.unusedSimpArgs false
set_option linter.unusedVariables false
namespace Go.Proofs.Ytohenjgegkgncaa
open Go.RowKit
def leftZ (g : Nat) (w : World) : Nat := match w.cell? ⟨g, 40, none⟩ with
  | some (.int _ k) => (31 - k).toNat
  | _ => 0
theorem leftZ_at {P : List UInt8} {t g : Nat} {w : World} (h : HashAt P t g w) : leftZ g w = 31 - t % 32 := by
  unfold leftZ
  rw [h.n]
  simp only
  omega
theorem padL_one (l : List UInt8) : (padL l)[l.length]? = some 1 := by
  unfold padL
  rw [List.append_assoc, List.append_assoc, List.getElem?_append_right (Nat.le_refl _), Nat.sub_self]; rfl
theorem padL_zero (l : List UInt8) (t : Nat) (h1 : l.length + 1 ≤ t) (h2 : t < l.length + 1 + padZ l.length) : (padL l)[t]? = some 0 := by
  unfold padL
  rw [List.append_assoc, List.getElem?_append_right (by simp; omega), List.getElem?_append_left (by simp; omega), List.getElem?_replicate, if_pos (by simp; omega)]
theorem padL_last (l : List UInt8) : (padL l)[l.length + 1 + padZ l.length]? = some 128 := by
  unfold padL
  rw [List.getElem?_append_right (by simp; omega)]
  have e : l.length + 1 + padZ l.length - (l ++ [1] ++ List.replicate (padZ l.length) 0).length = 0 := by simp; omega
  rw [e]; rfl
theorem padL_head (l : List UInt8) (i : Nat) (h : i < l.length) : (padL l)[i]? = l[i]? := by
  unfold padL
  rw [List.append_assoc, List.append_assoc, List.getElem?_append_left h]
def scs (l : List UInt8) : List Value := (sumB l).map u8v
theorem scs_len (l : List UInt8) : (scs l).length = 32 := by unfold scs sumB; rw [List.length_map, outB_len]
theorem scs_one (l : List UInt8) : ∀ u ∈ scs l, u.oneCell' = true := by
  intro u hu
  obtain ⟨x, _, rfl⟩ := List.mem_map.1 hu
  rfl
theorem aggHasher : Agg Try.prog 194 41 := ⟨_, Try.underlying194, rfl, by kernel_rfl⟩
theorem slice32' (g j : Nat) (hj : j < 4) (k : IntKind) (w : World) :
    (Instr.sliceAt 46 (.pointer (some ⟨g, 0, none⟩)) (some (.int k (8 * (j : Int)))) none none).run Try.prog w = .ok (.slice (some ⟨g, 8 * j, none⟩) (32 - 8 * j) (32 - 8 * j)) w := by
  have := slice32 (t := 46) (by kernel_rfl) (by kernel_rfl) (by kernel_rfl) g 0 j hj k w
  rwa [Nat.zero_add] at this
set_option maxHeartbeats 1000000 in
set_option maxRecDepth 100000 in
theorem hsum_any (l pt : List UInt8) (h32 : pt.length = 32) (hpt : ∀ i, i < l.length % 32 → pt[i]? = (padL l)[32 * (l.length / 32) + i]?) (w : World) :
    Calls Try.prog 134 #[.agg (hst (stB (padL l) (l.length / 32)) pt (l.length % 32)).toArray] w fun e w' => e = .returned (.agg ((sumB l).map u8v).toArray) ∧ Below w.heap.size w w' := by
  obtain ⟨H, hH⟩ : ∃ H, H = hst (stB (padL l) (l.length / 32)) pt (l.length % 32) := ⟨_, rfl⟩
  obtain ⟨w1, hw1⟩ : ∃ w1, w1 = (w.alloc (.cells H.toArray 194)).alloc (.cells zh.toArray 46) := ⟨_, rfl⟩
  have hb1 : HashAt (padL l) l.length w.heap.size w1 := ⟨pt, h32, hpt, by rw [hw1, ← hH]; exact (Blk.new w 194 H).alloc _⟩
  have hz1 : Blk 46 w1 (w.heap.size + 1) zh := by
    have := Blk.new (w.alloc (.cells H.toArray 194)) 46 zh
    have h2 : Blk 46 ((w.alloc (.cells H.toArray 194)).alloc (.cells zh.toArray 46)) (w.heap.size + 1) zh := by simpa using this
    rw [hw1]; exact h2
  have hbel1 : Below w.heap.size w w1 := by rw [hw1]; exact ((Below.refl _ _).alloc (Nat.le_refl _) _).alloc (by simp) _
  obtain ⟨P, hP⟩ : ∃ P, P = padL l := ⟨_, rfl⟩
  obtain ⟨n, hn⟩ : ∃ n, n = l.length := ⟨_, rfl⟩
  obtain ⟨zz, hzz⟩ : ∃ zz, zz = padZ l.length := ⟨_, rfl⟩
  have p1 := padL_one l
  have p2 := padL_zero l
  have p3 := padL_last l
  have pm := padL_mod l
  have pl := padL_len l
  have hz31 : (n + 1 + zz) % 32 = 31 := by rw [hzz, ← hn]; unfold padZ; omega
  have hzd : ∀ t, n + 1 ≤ t → t < n + 1 + zz → t % 32 < 31 := by
    intro t q1 q2
    rw [hzz, ← hn] at q2
    unfold padZ at q2
    omega
  rw [← hP, ← hn] at hb1 p1
  rw [← hP, ← hzz, ← hn] at p2 p3 pl
  rw [← hP] at pm
  have g0 : ∀ (u u' : World), Below w.heap.size w u → Blk 46 u (w.heap.size + 1) zh → u.grownBy u' (some w.heap.size) → Below w.heap.size w u' ∧ Blk 46 u' (w.heap.size + 1) zh :=
    fun u u' b z g => ⟨b.grown g b.size (fun k hk => by cases hk; exact Nat.le_refl _), z.grown g (by simp)⟩
  have c1 : ∀ w', HashAt P n w.heap.size w' → Calls Try.prog 153 #[.pointer (some ⟨w.heap.size, 0, none⟩), .int .u8 1] w' fun e w2 => e = .returned (.tuple #[]) ∧ HashAt P (n + 1) w.heap.size w2 ∧ w'.grownBy w2 (some w.heap.size) := fun w' h => take_any P n 1 _ w' p1 h
  have c2 : ∀ t w', n + 1 ≤ t → t < n + 1 + zz → HashAt P t w.heap.size w' → Calls Try.prog 153 #[.pointer (some ⟨w.heap.size, 0, none⟩), .int .u8 0] w' fun e w2 => e = .returned (.tuple #[]) ∧ HashAt P (t + 1) w.heap.size w2 ∧ w'.grownBy w2 (some w.heap.size) := fun t w' q1 q2 h => take_any P t 0 _ w' (p2 t q1 q2) h
  have c3 : ∀ w', HashAt P (n + 1 + zz) w.heap.size w' → Calls Try.prog 153 #[.pointer (some ⟨w.heap.size, 0, none⟩), .int .u8 128] w' fun e w2 => e = .returned (.tuple #[]) ∧ HashAt P (n + 1 + zz + 1) w.heap.size w2 ∧ w'.grownBy w2 (some w.heap.size) := fun w' h => take_any P _ 128 _ w' p3 h
  have hS : stB P ((n + 1 + zz + 1) / 32) = stB P (P.length / 32) := by rw [pl]; congr 2; omega
  have hT : ocs (stB P (P.length / 32)) = (sumB l).map u8v := by unfold ocs sumB; rw [hP]
  have hN0 : (n + 1 + zz + 1) % 32 = 0 := by omega
  have Hw1 := Lib.hid hw1
  have C1 := Lib.hid c1
  have C2 := Lib.hid c2
  have C3 := Lib.hid c3
  have G0 := Lib.hid g0
  have HS := Lib.hid hS
  have HT := Lib.hid hT
  have HH := Lib.hid hH
  have Hzd := Lib.hid hzd
  have Hz31 := Lib.hid hz31
  have HN0 := Lib.hid hN0
  rw [show hst (stB (padL l) (l.length / 32)) pt (l.length % 32) = H from hH.symm]
  clear hw1 c1 c2 c3 g0 hS hT hH hzd hz31 hN0 p1 p2 p3 pm pl hP hn hzz h32 hpt
  go_enter Try.func134, Try.ntmps134
  go_wp2_with (go_at_call 153; (have hcall := C1.out w1 hb1); rw [Hw1.out] at hcall; refine hcall.mono ?_; rintro e w2 ⟨rfl, hb2, hg2⟩; rw [← Hw1.out] at hg2; clear hcall)
  obtain ⟨hbel2, hz2⟩ := G0.out w1 w2 hbel1 hz1 hg2
  clear hb1 hz1 hbel1 hg2
  go_loopw [] (fun wr => ∃ t : Nat, n + 1 ≤ t ∧ t ≤ n + 1 + zz ∧ HashAt P t w.heap.size wr ∧ Blk 46 wr (w.heap.size + 1) zh ∧ Below w.heap.size w wr) (fun wr => leftZ w.heap.size wr)
  case atStart => exact ⟨n + 1, Nat.le_refl _, by omega, hb2, hz2, hbel2⟩
  case round =>
    clear hb2 hz2 hbel2
    obtain ⟨t, ht1, ht2, hb, hz, hbel⟩ := hrel
    have hc := hb.n
    by_cases hlt : t < n + 1 + zz
    · have hq := Hzd.out t ht1 hlt
      obtain ⟨q, hqq⟩ : ∃ q, q = t % 32 := ⟨_, rfl⟩
      rw [← hqq] at hc hq
      have hd : ((q : Int) != 31) = true := by rw [bne_iff_ne]; omega
      have Hqq := Lib.hid hqq
      clear hqq
      go_wp2_with (go_at_call 153; (with_reducible refine (C2.out t _ ht1 hlt hb).mono ?_); rintro e w3 ⟨rfl, hb3, hg3⟩; obtain ⟨hbel3, hz3⟩ := G0.out _ w3 hbel hz hg3)
      have m1 := leftZ_at hb
      have m2 := leftZ_at hb3
      go_roundw
      case rel => exact ⟨t + 1, by omega, by omega, hb3, hz3, hbel3⟩
      case measure => rw [m1, m2]; have := Hqq.out; omega
    · obtain rfl : t = n + 1 + zz := by omega
      rw [Hz31.out] at hc
      have hcc : wr.cell? ⟨w.heap.size, 40, none⟩ = some (.int .i64 31) := hc
      clear hc
      go_wp2_with (go_at_call 153; (with_reducible refine (C3.out _ hb).mono ?_); rintro e w3 ⟨rfl, hb3, hg3⟩; obtain ⟨hbel3, hz3⟩ := G0.out _ w3 hbel hz hg3)
      obtain ⟨pt2, h32, _, hbk⟩ := hb3
      rw [HS.out, HN0.out] at hbk
      have hSt := stB_St P (P.length / 32)
      obtain ⟨S, hSS⟩ : ∃ S, S = stB P (P.length / 32) := ⟨_, rfl⟩
      have hT := HT.out
      rw [← hSS] at hbk hSt hT
      have hTn := ocs_len S
      have hTi := fun k hk => ocs_at S k hk
      obtain ⟨T, hTT⟩ : ∃ T, T = ocs S := ⟨_, rfl⟩
      rw [← hTT] at hTn
      simp only [← hTT] at hTi
      have hblk := Blk.new w3 46 zh
      have hbk1 := hbk.alloc (.cells zh.toArray 46)
      have hz4 := hz3.alloc (.cells zh.toArray 46)
      have hbel4 := hbel3.alloc hbel3.size (.cells zh.toArray 46)
      have hlt3 := hz3.lt
      obtain ⟨g3, hg3'⟩ : ∃ g3, g3 = w3.heap.size := ⟨_, rfl⟩
      rw [← hg3'] at hblk hlt3
      have hzf : zh = fillL T (.int .u8 0) 0 := by rw [fill_zero, hTn]; rfl
      have HT' := Lib.hid hT
      have HTT := Lib.hid hTT
      have HTn := Lib.hid hTn
      have HTi := Lib.hid hTi
      have H32 := Lib.hid h32
      rw [show w3.heap.size = g3 from hg3'.symm]
      clear hT hTT hTn hTi h32 hg3' hbk hz3 hbel3 hg3 hb hz hbel hcc hSS
      go_loopw [11] (fun ix wi => ∃ j : Nat, j ≤ 4 ∧ ix = .int .i64 (j : Int) ∧ Blk 46 wi g3 (fillL T (.int .u8 0) (8 * j)) ∧ Blk 194 wi w.heap.size (hst S pt2 0) ∧ Blk 46 wi (w.heap.size + 1) zh ∧ Below w.heap.size w wi) (fun ix _ => 4 - (intOf ix).toNat)
      case atStart => exact ⟨0, by omega, rfl, by rw [← hzf]; exact hblk, hbk1, hz4, hbel4⟩
      case round =>
        clear hblk hbk1 hz4 hbel4 hzf
        obtain ⟨j, hj, rfl, hb, hk, hz, hbel⟩ := hrel
        by_cases hlt : j < 4
        · have hc := (hk.cell j).trans (hst_st hSt pt2 0 j (by omega))
          obtain ⟨x, hx, hx64⟩ := inU_nat (hSt.get j (by omega))
          rw [hx] at hc
          have k0 := fun u : Ext wr => u.cell hc
          have hsl := fun k w => slice32' g3 j hlt k w
          have hTw : ∀ i, i < 8 → T[8 * j + i]? = some (u8v (UInt8.ofNat (x / 2 ^ (8 * i)))) := by
            intro i hi
            rw [HTi.out (8 * j + i) (by omega), show (8 * j + i) / 8 = j from by omega, show (8 * j + i) % 8 = i from by omega, hx, Int.toNat_natCast]
          have cw := fun u hu => write8_any g3 (8 * j) (32 - 8 * j) x T 46 hx64 (by omega) hTw (by rw [HTn.out]; omega) u hu
          have Cw := Lib.hid cw
          have hji : (j : Int) < 4 := by omega
          have hj8 : (j : Int) < 8 := by omega
          have hj8' : j < 8 := by omega
          have e1 : IntKind.i64.wrap (8 * (j : Int)) = 8 * (j : Int) := IntWalk.i64_in _ (by omega)
          clear hTw cw hx hc
          go_wp2
          refine wp_region_typed wr 7 (by kernel_rfl) (by kernel_rfl) (Below.refl _ _) ?_; simp only [List.take_succ_cons, List.take_zero, List.take_nil]
          iterate 7 (refine wpX_step (by rfl) (fun K hK => ?_); go_simp; first | (refine hK _ ?_; clear hK K) | (apply Exists.intro; refine ⟨fun _ => ?_, hK _ ?_⟩; fail; clear hK K))
          refine wpX_nil ?_
          intro u2 hb2
          change wpList _ _ _ [_] _ _
          have hbA := hb.kept hb2
          have hkA := hk.kept hb2
          have hzA := hz.kept hb2
          have hbelA := Below.then hbel hb2
          clear k0 hsl hb hk hz hbel hb2
          go_wp2_with (go_at_call 154; (with_reducible refine (Cw.out _ hbA).mono ?_); rintro e u3 ⟨rfl, hb5, hg5⟩)
          have hkB := hkA.grown hg5 (by simp; omega)
          have hzB := hzA.grown hg5 (by simp; omega)
          have hbelB := hbelA.grown hg5 hbelA.size (fun k hk => by cases hk; omega)
          go_roundw
          case rel => exact ⟨j + 1, by omega, by go_num, hb5, hkB, hzB, hbelB⟩
          case measure => simp [intOf]; omega
        · obtain rfl : j = 4 := by omega
          have hfe := fill_end T (.int .u8 0)
          rw [HTn.out] at hfe
          rw [show 8 * 4 = 32 from rfl, hfe, HTT.out] at hb
          clear hfe
          go_wp2_with (first
            | (refine wpList_loadA (o := ⟨some 23, _, _, _, _, _⟩) (by rfl) 46 (.tmp 3) (by rfl) g3 (by rfl) aggHash' hb (ocs_len _) ?_)
            | (refine wpList_storeA (by rfl) 46 (.tmp 2) (.tmp 23) (by rfl) (w.heap.size + 1) (ocs S) (by rfl) (by rfl) aggHash' hz (ocs_len _) (by rfl) (ocs_one _) (Below.refl _ _) (Nat.le_refl _) ?_; intro u3 ho3 hb3 hg3; have hbel3 := hbel.trans (hb3.mono (by omega))))
          exact bodyPost_ret (results_blk rfl _ _ (w.heap.size + 1) aggHash' ho3 (ocs_len _) rfl) rfl ⟨by rw [← HT'.out], hbel3⟩
set_option maxHeartbeats 1000000 in
set_option maxRecDepth 100000 in
theorem sum_any (a : Option Addr) (n c : Nat) (l : List UInt8) (hn : l.length = n) (w : World) (h : Bytes w (.slice a n c) l) :
    Calls Try.prog 82 #[.slice a n c] w fun e w' => e = .returned (.agg ((sumB l).map u8v).toArray) ∧ Below w.heap.size w w' := by
  obtain ⟨H0, hH0⟩ : ∃ H0, H0 = hst (stB (padL l) 0) (List.replicate 32 0) 0 := ⟨_, rfl⟩
  obtain ⟨w1, hw1⟩ : ∃ w1, w1 = (w.alloc (.cells zh.toArray 46)).alloc (.cells H0.toArray 194) := ⟨_, rfl⟩
  have hz1 : Blk 46 w1 w.heap.size zh := by rw [hw1]; exact (Blk.new w 46 zh).alloc _
  have hb1 : HashAt (padL l) 0 (w.heap.size + 1) w1 := by
    refine ⟨List.replicate 32 0, by simp, fun i hi => by omega, ?_⟩
    have := Blk.new (w.alloc (.cells zh.toArray 46)) 194 H0
    have h2 : Blk 194 ((w.alloc (.cells zh.toArray 46)).alloc (.cells H0.toArray 194)) (w.heap.size + 1) H0 := by simpa using this
    rw [hw1, ← hH0]; exact h2
  have hbel1 : Below w.heap.size w w1 := by rw [hw1]; exact ((Below.refl _ _).alloc (Nat.le_refl _) _).alloc (by simp) _
  have hsz1 : w1.heap.size = w.heap.size + 2 := by rw [hw1]; simp
  have cw := write_any (padL l) l a n c (w.heap.size + 1) w w1 hn (fun i hi => padL_head l i (by omega)) h (by omega) hbel1 hb1 (by omega)
  have hH1 : H0.toArray = #[.int .u64 0, .int .u64 0, .int .u64 0, .int .u64 0, .int .u64 0, .int .u64 0, .int .u64 0, .int .u64 0, .int .u8 0, .int .u8 0, .int .u8 0, .int .u8 0, .int .u8 0, .int .u8 0, .int .u8 0, .int .u8 0, .int .u8 0, .int .u8 0, .int .u8 0, .int .u8 0, .int .u8 0, .int .u8 0, .int .u8 0, .int .u8 0, .int .u8 0, .int .u8 0, .int .u8 0, .int .u8 0, .int .u8 0, .int .u8 0, .int .u8 0, .int .u8 0, .int .u8 0, .int .u8 0, .int .u8 0, .int .u8 0, .int .u8 0, .int .u8 0, .int .u8 0, .int .u8 0, .int .i64 0] := by rw [hH0]; rfl
  have Cw := Lib.hid cw
  have Hw1 := Lib.hid hw1
  have HH1 := Lib.hid hH1
  have Hn := Lib.hid hn
  clear cw hw1 hH1 hH0 hn hb1 h
  go_enter Try.func82, Try.ntmps82
  go_wp2_with (first
    | (go_at_call 133; (have hcall := Cw.out); rw [Hw1.out, HH1.out] at hcall; refine hcall.mono ?_; rintro e w2 ⟨rfl, hb2, hg2⟩; rw [← HH1.out, ← Hw1.out] at hg2; clear hcall; obtain ⟨pt, h32, hpt, hbk⟩ := hb2; rw [← Hn.out] at hbk hpt; have hz2 := hz1.grown hg2 (by simp); have hbel2 := hbel1.grown hg2 hbel1.size (fun k hk => by cases hk; omega); have H32 := Lib.hid h32; have Hpt := Lib.hid hpt; clear h32 hpt)
    | (refine wpList_loadA (o := ⟨some 6, _, _, _, _, _⟩) (by rfl) 194 (.tmp 3) (by rfl) (w.heap.size + 1) (by rfl) aggHasher hbk (hst_len (stB_St _ _).1 H32.out _) ?_)
    | (go_at_call 134; (with_reducible refine (hsum_any l pt H32.out Hpt.out _).mono ?_); rintro e w3 ⟨rfl, b3⟩; have hz3 := hz2.kept b3; have hbel3 := Below.then hbel2 b3)
    | (refine wpList_storeA (by rfl) 46 (.tmp 2) (.tmp 7) (by rfl) w.heap.size (scs l) (by rfl) (by rfl) aggHash' hz3 (scs_len l) (by rfl) (scs_one l) (Below.refl _ _) (Nat.le_refl _) ?_; intro u3 ho3 hb3 hg3; have hbel4 := hbel3.trans hb3))
  exact bodyPost_ret (results_blk rfl _ _ w.heap.size aggHash' ho3 (scs_len l) rfl) rfl ⟨rfl, hbel4⟩
end Go.Proofs.Ytohenjgegkgncaa
