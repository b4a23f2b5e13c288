/- world.Set: where it does. -/
import Derived.Test.YtakhaanenlblmaaWsC
set_option linter.unusedSimpArgs false
set_option linter.unusedVariables false
namespace Go.Proofs.Ytakhaanenlblmaa
open Go.RowKit
def SetRel (w : World) (Y X : List Value) (l : List Hol) (A : List UInt8) (n : Nat) (v ix : Value) (u : World) : Prop := ∃ (k : Nat) (v' : Value) (O : List Hol), k ≤ n ∧ v' = v ∧ ix = .int .i64 (k : Int) ∧ StW w Y X l A k v' O u
set_option maxHeartbeats 4000000 in
set_option maxRecDepth 100000 in
theorem wset_does (a : Option Addr) (n c : Nat) (l : List Hol) (hn : l.length = n) (hk : ∀ h ∈ l, h.a.Ok) (hz : ∀ h ∈ l, h.a.Sz) (A : List UInt8) (hA : A.length = 8) (q : Acc) (hqk : q.Ok) (hqz : q.Sz) (hb : (n + 1) * 96 ≤ 140737488355328) (w : World) (h : RowOf hols 15 w (.slice a n c) l) (hi : ∀ h ∈ l, h.a.In w) (hqi : q.In w) (h1 : rightB l = true) (h2 : slotsB q.s = true) (h3 : ¬ 1024 < q.c.length) :
    Calls Try.prog 22 #[.slice a n c, .agg (by8 A).toArray, .agg (accs q).toArray] w (SetPost l A q w) := by
  obtain ⟨w1, hw1⟩ : ∃ w1, w1 = (w.alloc (.cells (by8 A).toArray 46)).alloc (.cells (accs q).toArray 49) := ⟨_, rfl⟩
  have z4 : Blk 46 w1 w.heap.size (by8 A) := by rw [hw1]; exact (Blk.new w _ _).alloc _
  have z5 : Blk 49 w1 (w.heap.size + 1) (accs q) := by
    rw [hw1]
    have := Blk.new (w.alloc (.cells (by8 A).toArray 46)) 49 (accs q)
    simpa using this
  have hbel : Below w.heap.size w w1 := by rw [hw1]; exact ((Below.refl _ _).alloc (Nat.le_refl _) _).alloc (by simp) _
  have cr := right_any a n c l hn hk w1 (h.below hbel) (fun q hq => (hi q hq).below hbel)
  obtain ⟨ca, cc, sa, sc, hcv, hsv⟩ := acc_parts hqi
  have k5 : ∀ u, Blk 49 u (w.heap.size + 1) (accs q) → u.cell? ⟨w.heap.size + 1, 5, none⟩ = some (.slice ca q.c.length cc) := fun u hu => by have := hu.cell 5; rw [show (accs q)[5]? = some q.cv from rfl, hcv] at this; exact this
  have k6 : ∀ u, Blk 49 u (w.heap.size + 1) (accs q) → u.cell? ⟨w.heap.size + 1, 6, none⟩ = some (.slice sa q.s.length sc) := fun u hu => by have := hu.cell 6; rw [show (accs q)[6]? = some q.sv from rfl, hsv] at this; exact this
  have cs : ∀ u, Below w.heap.size w u → Calls Try.prog 61 #[.slice sa q.s.length sc] u fun e w' => e = .returned (.bool (slotsB q.s)) ∧ Below u.heap.size u w' := fun u hu => slotsRight_any sa q.s.length sc q.s rfl hqk.s u (by have := (hqi.below hu).2; rw [hsv] at this; exact this)
  have hR := rising_of (l := l)
  obtain ⟨xR, hxR⟩ : ∃ x, x = rightB l := ⟨_, rfl⟩
  obtain ⟨xS, hxS⟩ : ∃ x, x = slotsB q.s := ⟨_, rfl⟩
  obtain ⟨cn, hcn⟩ : ∃ x, x = q.c.length := ⟨_, rfl⟩
  obtain ⟨sn, hsn⟩ : ∃ x, x = q.s.length := ⟨_, rfl⟩
  rw [← hxR] at cr
  rw [← hxS, ← hsn] at cs
  rw [← hcn] at k5
  rw [← hsn] at k6
  obtain ⟨Y, hY⟩ : ∃ Y, Y = by8 A := ⟨_, rfl⟩
  obtain ⟨X, hX⟩ : ∃ X, X = accs q := ⟨_, rfl⟩
  have hlY : Y.length = 8 := by rw [hY, by8_len, hA]
  have hlX : X.length = 7 := by rw [hX]; rfl
  have hXo : ∀ u ∈ X, u.oneCell' = true := by rw [hX]; exact accs_one hqi
  have hR1 := hR h1
  rw [hxR.trans h1] at cr
  rw [hxS.trans h2] at cs
  have hc : ¬ (1024 : Int) < (cn : Int) := by omega
  have nc : ∀ u : World, Below w.heap.size w u → Calls Try.prog 62 #[.agg (accs q).toArray] u fun e w' => e = .returned (.bool (noneB q)) ∧ Below u.heap.size u w' := fun u hu => none_any q hqk u (hqi.below hu)
  have co : ∀ u : World, Below w.heap.size w u → Calls Try.prog 60 #[.agg (accs q).toArray] u fun e w' => ∃ a' : Acc, e = .returned (.agg (accs a').toArray) ∧ a'.val = q.val ∧ OwnAcc w' u.heap.size a' ∧ Below u.heap.size u w' := fun u hu => own_any q hqz u (hqi.below hu)
  rw [← hX, ← hY] at hw1 ⊢
  rw [← hX] at z5 k5 k6 nc co
  rw [← hY] at z4
  have cf : ∀ (v : Value) (O : List Hol) (u : World), OwnOf hols 15 130 u w.heap.size v O → Rising O → O.length ≤ n → Calls Try.prog 59 #[v, .agg Y.toArray] u fun e w' => ∃ (i : Nat) (ok : Bool), e = .returned (.tuple #[.int .i64 (i : Int), .bool ok]) ∧ FindP O (numL A) i ok ∧ Below u.heap.size u w' := fun v O u ho hr hl => by
    obtain ⟨oa, oc, rfl, _⟩ := ho.form
    rw [hY]
    exact find_any oa O.length oc O rfl hr A hA (by omega) u ho.row
  have Hw1 := Lib.hid hw1
  have Cr := Lib.hid cr
  have Cs := Lib.hid cs
  have K5 := Lib.hid k5
  have K6 := Lib.hid k6
  have Nc := Lib.hid nc
  have Co := Lib.hid co
  have Cf := Lib.hid cf
  have HR1 := Lib.hid hR1
  have H1 := Lib.hid h1
  have H2 := Lib.hid h2
  have H3 := Lib.hid h3
  have Hn := Lib.hid hn
  have Hz := Lib.hid hz
  have Hi := Lib.hid hi
  have HA := Lib.hid hA
  have HY := Lib.hid hY
  have hsm : n ≤ 140737488355328 := by omega
  clear hw1 cr cs k5 k6 nc co cf hR1 hR h1 h2 h3 hxR hxS hcn hsn hX hY hcv hsv hn hk hz hqk hqz hi hqi hA
  go_enter Try.func22, Try.ntmps22
  go_wp2_with (first | (go_at_call 24; rw [show ((w.alloc (.cells Y.toArray 46)).alloc (.cells X.toArray 49)) = w1 from Hw1.out.symm]; refine Cr.out.mono ?_; rintro e w2 ⟨rfl, b2⟩; have bb2 := Below.then hbel b2; have z42 := z4.kept b2; have z52 := z5.kept b2; have c62 := K6.out _ z52) | (go_at_call 61; refine (Cs.out _ bb2).mono ?_; rintro e w3 ⟨rfl, b3⟩; have bb3 := Below.then bb2 b3; have z43 := z42.kept b3; have z53 := z52.kept b3; have c53 := K5.out _ z53))
  have S0 : StW w Y X l A 0 (.slice none 0 0) [] w3 := ⟨bb3, z43, z53, OwnOf.nil hols 15 _ _ _, by simp, rfl⟩
  go_loopw [8, 30] (fun v ix wr => SetRel w Y X l A n v ix wr) (fun _ ix _ => n - (intOf ix).toNat)
  case atStart => exact ⟨0, _, [], by omega, rfl, rfl, S0⟩
  case round =>
    clear S0 bb3 z43 z53 c53 b3 c62 z42 z52 b2 bb2 z4 z5 hbel
    obtain ⟨k, v, O, hkn, rfl, rfl, S⟩ := hrel
    by_cases hlt : k < n
    · have hki : (k : Int) < (n : Int) := by omega
      have hil : k < l.length := by rw [Hn.out]; exact hlt
      obtain ⟨b, off, rfl, hr⟩ := RowOf.range hols_len (h.below S.b) k hil
      have hip := (Hi.out _ (List.getElem_mem hil)).below S.b
      have hzp := Hz.out _ (List.getElem_mem hil)
      obtain ⟨p, hp⟩ : ∃ p, p = l[k] := ⟨_, rfl⟩
      rw [← hp] at hr hip hzp
      obtain ⟨P8, hP8⟩ : ∃ P, P = hols p := ⟨_, rfl⟩
      have hl8 : P8.length = 15 := by rw [hP8]; exact hols_len p
      have ho8 : ∀ u ∈ P8, u.oneCell' = true := by rw [hP8]; exact hols_one hip
      obtain ⟨V, hV⟩ : ∃ Y, Y = accs p.a := ⟨_, rfl⟩
      obtain ⟨Z, hZ⟩ : ∃ Z, Z = by8 p.f := ⟨_, rfl⟩
      have hlV : V.length = 7 := by rw [hV]; rfl
      have hlZ : Z.length = 8 := by rw [hZ, by8_len, p.l]
      have hr4 : ∀ u x, Blk 130 u x P8 → u.rangeAt x 0 Z ∧ u.rangeAt x 8 V := fun u x h => by
        rw [hP8] at h
        refine ⟨fun j v hv => ?_, fun j v hv => ?_⟩
        · rw [Nat.zero_add, h.cell, hols_addr p j (by have := (List.getElem?_eq_some_iff.1 hv).1; omega), ← hZ]; exact hv
        · rw [h.cell, hols_from, ← hV]; exact hv
      have g1 := guard_ne_a p.f A
      have q1 := run_ne_a p.f A p.l HA.out
      have co2 : ∀ u : World, Below wr.heap.size wr u → Calls Try.prog 60 #[.agg V.toArray] u fun e w' => ∃ a' : Acc, e = .returned (.agg (accs a').toArray) ∧ a'.val = p.a.val ∧ OwnAcc w' u.heap.size a' ∧ Below u.heap.size u w' := fun u hu => by rw [hV]; exact own_any p.a hzp u (hip.below hu)
      rw [← hP8] at hr
      rw [← hZ, ← HY.out] at g1 q1
      have Hr4 := Lib.hid hr4
      have Co2 := Lib.hid co2
      have n4 := Blk.newA wr 130 z15.toArray
      have hb4 : Below wr.heap.size wr (wr.alloc (.cells z15.toArray 130)) := (Below.refl _ _).alloc (Nat.le_refl _) _
      have Hp := Lib.hid hp
      clear hr4 co2 hV hP8 hip hzp hp
      by_cases he : p.f = A
      · have hne : (!(p.f == A)) = false := by simp [he]
        rw [hne] at q1
        have Q1 := Lib.hid q1
        have G1 := Lib.hid g1
        have S2 : ∀ u, Below wr.heap.size wr u → StW w Y X l A (k + 1) v O u := fun u hu => (S.kept hu).skip hil (by rw [← Hp.out]; exact he)
        have HS2 := Lib.hid S2
        clear S2 q1 g1 hne he
        go_upto_region 10 with (first
          | ((with_reducible show wpList _ _ _ (⟨some 33, _, _, _, _, _⟩ :: _) _ _); refine wpList_loadW (o := ⟨some 33, _, _, _, _, _⟩) 130 (.tmp 32) (by rfl) b (off + k * 15) (by rfl) aggHol hl8 hr (by rfl) ?_)
          | ((with_reducible show wpList _ _ _ (⟨none, Op.store _ _ (Operand.tmp 33), _, _, _, _⟩ :: _) _ _); refine wpList_storeA (o := ⟨none, _, _, _, _, _⟩) (by rfl) 130 (.tmp 10) (.tmp 33) (by rfl) wr.heap.size P8 (by rfl) (by rfl) aggHol n4 hl8 (by rfl) ho8 hb4 (Nat.le_refl _) ?_; intro w2 z2 b2 _; have R2 := Lib.hid (Hr4.out _ _ z2); have S1 := S.kept b2; have z4 := S1.z4)
          | ((with_reducible show wpList _ _ _ (⟨some 35, _, _, _, _, _⟩ :: _) _ _); refine wpList_loadW (o := ⟨some 35, _, _, _, _, _⟩) 46 (.tmp 34) (by rfl) wr.heap.size 0 (by rfl) aggAddr hlZ R2.out.1 (by rfl) ?_)
          | ((with_reducible show wpList _ _ _ (⟨some 36, _, _, _, _, _⟩ :: _) _ _); refine wpList_loadA (o := ⟨some 36, _, _, _, _, _⟩) (by rfl) 46 (.tmp 4) (by rfl) w.heap.size (by rfl) aggAddr z4 hlY ?_)
          | ((with_reducible show wpList _ _ _ (⟨some 37, _, _, _, _, _⟩ :: _) _ _); refine wpList_neqW (o := ⟨some 37, _, _, _, _, _⟩) 46 (.tmp 35) (.tmp 36) 46 (by rfl) (by rfl) (by rfl) G1.out Q1.out (by rfl) ?_))
        go_roundw
        case rel => exact (show SetRel w Y X l A n _ _ _ from ⟨k + 1, v, O, by omega, rfl, by go_num, HS2.out _ b2⟩)
        case measure => simp [intOf]; omega
      · have hne : (!(p.f == A)) = true := by simp [he]
        rw [hne] at q1
        have Q1 := Lib.hid q1
        have G1 := Lib.hid g1
        have He := Lib.hid he
        clear q1 g1 hne he
        go_upto_region 10 with (first
          | ((with_reducible show wpList _ _ _ (⟨some 33, _, _, _, _, _⟩ :: _) _ _); refine wpList_loadW (o := ⟨some 33, _, _, _, _, _⟩) 130 (.tmp 32) (by rfl) b (off + k * 15) (by rfl) aggHol hl8 hr (by rfl) ?_)
          | ((with_reducible show wpList _ _ _ (⟨none, Op.store _ _ (Operand.tmp 33), _, _, _, _⟩ :: _) _ _); refine wpList_storeA (o := ⟨none, _, _, _, _, _⟩) (by rfl) 130 (.tmp 10) (.tmp 33) (by rfl) wr.heap.size P8 (by rfl) (by rfl) aggHol n4 hl8 (by rfl) ho8 hb4 (Nat.le_refl _) ?_; intro w2 z2 b2 _; have R2 := Lib.hid (Hr4.out _ _ z2); have S1 := S.kept b2; have z4 := S1.z4)
          | ((with_reducible show wpList _ _ _ (⟨some 35, _, _, _, _, _⟩ :: _) _ _); refine wpList_loadW (o := ⟨some 35, _, _, _, _, _⟩) 46 (.tmp 34) (by rfl) wr.heap.size 0 (by rfl) aggAddr hlZ R2.out.1 (by rfl) ?_)
          | ((with_reducible show wpList _ _ _ (⟨some 36, _, _, _, _, _⟩ :: _) _ _); refine wpList_loadA (o := ⟨some 36, _, _, _, _, _⟩) (by rfl) 46 (.tmp 4) (by rfl) w.heap.size (by rfl) aggAddr z4 hlY ?_)
          | ((with_reducible show wpList _ _ _ (⟨some 37, _, _, _, _, _⟩ :: _) _ _); refine wpList_neqW (o := ⟨some 37, _, _, _, _, _⟩) 46 (.tmp 35) (.tmp 36) 46 (by rfl) (by rfl) (by rfl) G1.out Q1.out (by rfl) ?_))
        have HZ := Lib.hid hZ
        clear hZ
        refine wp_region_typed w2 8 (by kernel_rfl) (by kernel_rfl) (Below.refl _ _) ?_; simp only [List.take_succ_cons, List.take_zero, List.take_nil]
        iterate 2 (refine wpX_step (by rfl) (fun K hK => ?_); go_simp; first | (refine hK _ ?_; clear hK K) | (apply Exists.intro; refine ⟨fun _ => ?_, hK _ ?_⟩; fail; clear hK K))
        (refine wpX_step (by rfl) (fun K hK => ?_); rw [if_pos (by rfl)]; refine ⟨_, fun u => const_loadm _ (.tmp 39) (by rfl) _ _ (by rfl) aggAddr hlZ (rangeAt.ext R2.out.1 u), hK _ ?_⟩; clear hK K; simp only [Act.put, List.setIfInBounds_toArray, List.set_cons_zero, List.set_cons_succ])
        (refine wpX_step (by rfl) (fun K hK => ?_); go_simp; first | (refine hK _ ?_; clear hK K) | (apply Exists.intro; refine ⟨fun _ => ?_, hK _ ?_⟩; fail; clear hK K))
        (refine wpX_step (by rfl) (fun K hK => ?_); rw [if_pos (by rfl)]; refine ⟨_, fun u => const_loadm _ (.tmp 41) (by rfl) _ _ (by rfl) aggAcc hlV (rangeAt.ext R2.out.2 u), hK _ ?_⟩; clear hK K; simp only [Act.put, List.setIfInBounds_toArray, List.set_cons_zero, List.set_cons_succ])
        refine wpX_rel 43 (AccO w2.heap.size p.a.val) rfl (of_decide_eq_true rfl) (AccO.mono _ _) (fun w3 hw3 => ?_) ?_
        · show _ ∧ _
          refine ⟨by rfl, ?_⟩
          go_simp
          refine (Co2.out w3 (Below.then b2 hw3)).mono ?_
          rintro e w4 ⟨a', rfl, hv, ho, b4⟩
          exact ⟨_, rfl, ⟨a', rfl, hv, ho.lower hw3.size⟩, b4⟩
        refine wpX_rel 44 (HolO w2.heap.size p.f p.a.val) rfl (of_decide_eq_true rfl) (HolO.mono _ _ _) (fun w3 hw3 => ?_) ?_
        · change forallRel w3 [(43, _)] _ _
          rintro v43 ⟨a', rfl, hv, ho⟩
          simp only [forallRel]
          refine ⟨by rfl, ?_⟩
          exact good_build (o := ⟨some 44, _, _, _, _, _⟩) 130 [(0, .tmp 40), (1, .tmp 43)] (by rfl) _ (by rfl) _ (by rw [HZ.out]; exact built_hol ⟨p.f, a', p.l⟩) ⟨⟨p.f, a', p.l⟩, rfl, by unfold Hol.key; rw [← hv], ho⟩
        refine wpX_rel 45 (OneH w2.heap.size w2.heap.size p.f p.a.val) rfl (of_decide_eq_true rfl) (OneH.mono _ _ _ _) (fun w3 hw3 => ?_) ?_
        · change forallRel w3 [(44, _)] _ _
          rintro v44 ⟨p', rfl, hv, ho⟩
          simp only [forallRel]
          refine ⟨by rfl, ?_⟩
          exact good_one (o := ⟨some 45, _, _, _, _, _⟩) (.tmp 44) (by rfl) p' (by rfl) ⟨p', w3.heap.size, rfl, hw3.size, Blk.new w3 _ _, hv, ho.kept ((Below.refl _ _).alloc (Nat.le_refl _) _)⟩
        refine wpX_nil ?_
        intro w5 b5 v43 h43 v44 h44 v45 h45
        change wpList _ _ _ [_, _] _ _
        try simp only [Act.put, List.setIfInBounds_toArray, List.set_cons_zero, List.set_cons_succ]
        obtain ⟨p', g, rfl, hg0, hblk, hkey, hown⟩ := h45
        have S3 := S1.kept b5
        have hkl := S3.len
        have hS1s := S1.b.size
        clear h43 h44
        have hgrew := fun v' u' => S3.grew (v' := v') (u' := u') hil (by rw [← Hp.out]; exact He.out) (hkey.trans (by rw [← Hp.out]; rfl)) (hown.lower hS1s)
        have HGrew := Lib.hid hgrew
        have Ho1 := Lib.hid (hols_one hown.In)
        have HO3 := Lib.hid S3.o
        have Hr3 := Lib.hid (hol_row hblk)
        have Hs3 := Lib.hid S3.b.size
        clear hgrew hblk hkey hown S1 S
        go_wp2_with (refine wpList_appB (o := ⟨some 46, _, _, _, _, _⟩) (by rfl) (.tmp 38) (.tmp 45) 44 (by rfl) elHol (by simpa using Ho1.out) (by rfl) HO3.out (by rfl) Hr3.out Hs3.out (by simp only [List.length_cons, List.length_nil]; omega) (by simp only [List.length_cons, List.length_nil]; unfold maxLen; omega) ?_; intro v6 w6 o6 g6 _)
        go_roundw
        case rel => exact (show SetRel w Y X l A n _ _ _ from ⟨k + 1, v6, O ++ [p'], by omega, rfl, by go_num, HGrew.out v6 w6 o6 g6⟩)
        case measure => simp [intOf]; omega
    · obtain rfl : k = n := by omega
      have hki : ¬ (k : Int) < (k : Int) := by omega
      have hkey : O.map Hol.key = (butL A l).map Hol.key := by have := S.k; rwa [List.take_of_length_le (by rw [Hn.out]; exact Nat.le_refl _)] at this
      have HKey := Lib.hid hkey
      have hOl : O.length ≤ k := S.len
      have z5 := S.z5
      obtain ⟨xN, hxN⟩ : ∃ x, x = noneB q := ⟨_, rfl⟩
      have ncw := Nc.out wr S.b
      rw [← hxN] at ncw
      have Nw := Lib.hid ncw
      have HxN := Lib.hid hxN
      clear hkey ncw hxN
      cases xN with
      | true =>
        go_wp2_with (first
          | ((with_reducible show wpList _ _ _ (⟨some 48, _, _, _, _, _⟩ :: _) _ _); refine wpList_loadA (o := ⟨some 48, _, _, _, _, _⟩) (by rfl) 49 (.tmp 5) (by rfl) (w.heap.size + 1) (by rfl) aggAcc z5 hlX ?_)
          | (go_at_call 62; refine Nw.out.mono ?_; rintro e w4 ⟨rfl, b4⟩; have S4 := S.kept b4))
        go_ret2
        exact ⟨v, O, 0, rfl, S4.o.row, fun h hh => (S4.q h hh).In, .inr (.inr ⟨H1.out, H2.out, H3.out, rfl, by rw [HKey.out]; unfold setK; rw [if_pos HxN.out.symm]⟩), S4.b⟩
      | false =>
        go_upto_region 14 with (first
          | ((with_reducible show wpList _ _ _ (⟨some 48, _, _, _, _, _⟩ :: _) _ _); refine wpList_loadA (o := ⟨some 48, _, _, _, _, _⟩) (by rfl) 49 (.tmp 5) (by rfl) (w.heap.size + 1) (by rfl) aggAcc z5 hlX ?_)
          | (go_at_call 62; refine Nw.out.mono ?_; rintro e w4 ⟨rfl, b4⟩; have S4 := S.kept b4; have z4 := S4.z4)
          | ((with_reducible show wpList _ _ _ (⟨some 53, _, _, _, _, _⟩ :: _) _ _); refine wpList_loadA (o := ⟨some 53, _, _, _, _, _⟩) (by rfl) 46 (.tmp 4) (by rfl) w.heap.size (by rfl) aggAddr z4 hlY ?_)
          | (go_at_call 59; refine (Cf.out v O w4 S4.o (rising_key HKey.out (rising_but A HR1.out)) hOl).mono ?_; rintro e w5 ⟨i, ok, rfl, hF, b5⟩; have S5 := S4.kept b5; have HF := Lib.hid hF; clear hF))
        have RY := Lib.hid (Blk.range0 S5.z4)
        have RX := Lib.hid (Blk.range0 S5.z5)
        refine wp_region_typed w5 7 (by kernel_rfl) (by kernel_rfl) (Below.refl _ _) ?_; simp only [List.take_succ_cons, List.take_zero, List.take_nil]
        iterate 2 (refine wpX_step (by rfl) (fun K hK => ?_); go_simp; first | (refine hK _ ?_; clear hK K) | (apply Exists.intro; refine ⟨fun _ => ?_, hK _ ?_⟩; fail; clear hK K))
        (refine wpX_step (by rfl) (fun K hK => ?_); rw [if_pos (by rfl)]; refine ⟨_, fun u => const_loadm _ (.tmp 4) (by rfl) _ _ (by rfl) aggAddr hlY (rangeAt.ext RY.out u), hK _ ?_⟩; clear hK K; simp only [Act.put, List.setIfInBounds_toArray, List.set_cons_zero, List.set_cons_succ])
        (refine wpX_step (by rfl) (fun K hK => ?_); rw [if_pos (by rfl)]; refine ⟨_, fun u => const_loadm _ (.tmp 5) (by rfl) _ _ (by rfl) aggAcc hlX (rangeAt.ext RX.out u), hK _ ?_⟩; clear hK K; simp only [Act.put, List.setIfInBounds_toArray, List.set_cons_zero, List.set_cons_succ])
        refine wpX_rel 61 (AccO w5.heap.size q.val) rfl (of_decide_eq_true rfl) (AccO.mono _ _) (fun w6 hw6 => ?_) ?_
        · show _ ∧ _
          refine ⟨by rfl, ?_⟩
          go_simp
          refine (Co.out w6 (Below.then S5.b hw6)).mono ?_
          rintro e w7 ⟨a', rfl, hv, ho, b7⟩
          exact ⟨_, rfl, ⟨a', rfl, hv, ho.lower hw6.size⟩, b7⟩
        refine wpX_rel 62 (HolO w5.heap.size A q.val) rfl (of_decide_eq_true rfl) (HolO.mono _ _ _) (fun w6 hw6 => ?_) ?_
        · change forallRel w6 [(61, _)] _ _
          rintro v61 ⟨a', rfl, hv, ho⟩
          simp only [forallRel]
          refine ⟨by rfl, ?_⟩
          exact good_build (o := ⟨some 62, _, _, _, _, _⟩) 130 [(0, .tmp 59), (1, .tmp 61)] (by rfl) _ (by rfl) _ (by rw [HY.out]; exact built_hol ⟨A, a', HA.out⟩) ⟨⟨A, a', HA.out⟩, rfl, by unfold Hol.key; rw [← hv], ho⟩
        refine wpX_rel 63 (OneH w5.heap.size w5.heap.size A q.val) rfl (of_decide_eq_true rfl) (OneH.mono _ _ _ _) (fun w6 hw6 => ?_) ?_
        · change forallRel w6 [(62, _)] _ _
          rintro v62 ⟨p', rfl, hv, ho⟩
          simp only [forallRel]
          refine ⟨by rfl, ?_⟩
          exact good_one (o := ⟨some 63, _, _, _, _, _⟩) (.tmp 62) (by rfl) p' (by rfl) ⟨p', w6.heap.size, rfl, hw6.size, Blk.new w6 _ _, hv, ho.kept ((Below.refl _ _).alloc (Nat.le_refl _) _)⟩
        refine wpX_nil ?_
        intro w6 b6 v61 h61 v62 h62 v63 h63
        change wpList _ _ _ [_, _] _ _
        try simp only [Act.put, List.setIfInBounds_toArray, List.set_cons_zero, List.set_cons_succ]
        obtain ⟨p', g, rfl, hg0, hblk, hkey, hown⟩ := h63
        have S6 := S5.kept b6
        have hnb : v.ownBlock ≠ some g := fun e => by have := OwnOf.ltT S5.o g e; omega
        have ci := insert_any w.heap.size v O.length O rfl i HF.out.1 p' g (by omega) w6 S6.o S6.one hblk (hols_one hown.In) hnb S6.b.size
        have hres : SetR l A q ((O.take i ++ p' :: O.drop i).map Hol.key) 0 := .inr (.inr ⟨H1.out, H2.out, H3.out, rfl, set_law HA.out HR1.out HKey.out HF.out HxN.out.symm hkey⟩)
        have hq6 : ∀ h ∈ O.take i ++ p' :: O.drop i, OwnAcc w6 w.heap.size h.a := fun h hh => by
          rcases List.mem_append.1 hh with hh | hh
          · exact S6.q h (List.mem_of_mem_take hh)
          · rcases List.mem_cons.1 hh with rfl | hh
            · exact hown.lower S5.b.size
            · exact S6.q h (List.mem_of_mem_drop hh)
        have Ci := Lib.hid ci
        have Hres := Lib.hid hres
        have Hq6 := Lib.hid hq6
        have HS6 := Lib.hid S6
        clear ci hres hq6 S6 S5 S4 S h61 h62 hblk hkey hown z4 z5
        go_wp2_with (go_at_call 63; refine Ci.out.mono ?_; rintro e w7 ⟨v7, rfl, o7, g7⟩)
        go_ret2
        exact ⟨v7, _, 0, rfl, o7.row, fun h hh => ((Hq6.out h hh).grown g7 (fun k hk => HS6.out.o.isBlk hk)).In, Hres.out, HS6.out.b.grown g7 HS6.out.b.size (fun k hk => HS6.out.o.lt k hk)⟩
end Go.Proofs.Ytakhaanenlblmaa
