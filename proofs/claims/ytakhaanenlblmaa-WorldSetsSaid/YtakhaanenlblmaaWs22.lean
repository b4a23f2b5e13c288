/- The reference's OSet: where it does. -/
import Derived.Test.YtakhaanenlblmaaWsE
set_option linter.unusedSimpArgs false
set_option linter.unusedVariables false
namespace Go.Proofs.Ytakhaanenlblmaa
open Go.RowKit
def OsRel (w : World) (Y X : List Value) (l : List Hol) (A : List UInt8) (q : Acc) (n : Nat) (s9 s10 ix : Value) (u : World) : Prop := ∃ (k : Nat) (v' : Value) (O : List Hol) (laid : Bool), k ≤ n ∧ v' = s9 ∧ s10 = .bool laid ∧ ix = .int .i64 (k : Int) ∧ StO w Y X v' O u ∧ O.length ≤ k + 1 ∧ (laid = false → O.length ≤ k) ∧ oFold A q (l.take k) = (O.map Hol.key, laid)
set_option maxHeartbeats 8000000 in
set_option maxRecDepth 100000 in
theorem oset_does (a : Option Addr) (n c : Nat) (l : List Hol) (hn : l.length = n) (hk : ∀ h ∈ l, h.a.Ok) (hz : ∀ h ∈ l, h.a.Sz) (A : List UInt8) (hA : A.length = 8) (q : Acc) (hqk : q.Ok) (hqz : q.Sz) (hb : (n + 3) * 96 ≤ 140737488355328) (w : World) (h : RowOf hols 15 w (.slice a n c) l) (hi : ∀ h ∈ l, h.a.In w) (hqi : q.In w) (h1 : rightB l = true) (h2 : slotsB q.s = true) (h3 : ¬ 1024 < q.c.length) :
    Calls Try.prog 23 #[.slice a n c, .agg (by8 A).toArray, .agg (accs q).toArray] w (SetPost l A q w) := by
  obtain ⟨w1, hw1⟩ : ∃ w1, w1 = (w.alloc (.cells (by8 A).toArray 46)).alloc (.cells (accs q).toArray 49) := ⟨_, rfl⟩
  have z4 : Blk 46 w1 w.heap.size (by8 A) := by rw [hw1]; exact (Blk.new w _ _).alloc _
  have z5 : Blk 49 w1 (w.heap.size + 1) (accs q) := by
    rw [hw1]
    have := Blk.new (w.alloc (.cells (by8 A).toArray 46)) 49 (accs q)
    simpa using this
  have hbel : Below w.heap.size w w1 := by rw [hw1]; exact ((Below.refl _ _).alloc (Nat.le_refl _) _).alloc (by simp) _
  have cr : ∀ u, Below w.heap.size w u → Calls Try.prog 25 #[.slice a n c] u fun e w' => e = .returned (.bool (rightB l)) ∧ Below u.heap.size u w' := fun u hu => oright_any a n c l hn hk u (h.below hu) (fun q hq => (hi q hq).below hu)
  have ce := oerror_any q hqk w1 (hqi.below hbel)
  obtain ⟨ca, cc, sa, sc, hcv, hsv⟩ := acc_parts hqi
  have hR := rising_of (l := l)
  obtain ⟨xR, hxR⟩ : ∃ x, x = rightB l := ⟨_, rfl⟩
  obtain ⟨E, hE⟩ : ∃ x, x = errA q := ⟨_, rfl⟩
  rw [← hxR] at cr
  rw [← hE] at ce
  obtain ⟨Y, hY⟩ : ∃ Y, Y = by8 A := ⟨_, rfl⟩
  obtain ⟨X, hX⟩ : ∃ X, X = accs q := ⟨_, rfl⟩
  have hlY : Y.length = 8 := by rw [hY, by8_len, hA]
  have hlX : X.length = 7 := by rw [hX]; rfl
  have hXo : ∀ u ∈ X, u.oneCell' = true := by rw [hX]; exact accs_one hqi
  have hR1 := hR h1
  rw [hxR.trans h1] at cr
  obtain rfl : E = 0 := by rw [hE]; unfold errA; rw [h2, if_pos rfl, if_neg h3]
  have nc : ∀ u : World, Below w.heap.size w u → Calls Try.prog 65 #[.agg (accs q).toArray] u fun e w' => e = .returned (.bool (noneB q)) ∧ Below u.heap.size u w' := fun u hu => onothing_any q hqk u (hqi.below hu)
  obtain ⟨pq, hpq⟩ : ∃ p : Hol, p = ⟨A, q, hA⟩ := ⟨_, rfl⟩
  have hb0 := built_hol pq
  have hpf : pq.f = A := by rw [hpq]
  have hpa : pq.a = q := by rw [hpq]
  rw [hpf, hpa] at hb0
  obtain ⟨CQ, hCQ⟩ : ∃ C, C = hols pq := ⟨_, rfl⟩
  rw [← hCQ] at hb0
  have hqo : ∀ u ∈ hols pq, u.oneCell' = true := hols_one (by rw [hpa]; exact hqi)
  have hstrA : ∀ u, Blk 46 u w.heap.size (by8 A) → (convert 22 9 (.slice (some ⟨w.heap.size, 0, none⟩) 8 8)).run Try.prog u = .ok (str A) u := fun u hu => run_str (P := Try.prog) (src := 22) (dst := 9) elU8.ht (by kernel_rfl) (by kernel_rfl) (addr_row hu hA)
  rw [← hX, ← hY] at hw1 hb0 ⊢
  rw [← hX] at z5 ce nc
  rw [← hY] at z4 hstrA
  have hkeyq : pq.key = (A, q.val) := by unfold Hol.key; rw [hpf, hpa]
  have Hw1 := Lib.hid hw1
  have Cr := Lib.hid cr
  have Ce := Lib.hid ce
  have Nc := Lib.hid nc
  have HB := Lib.hid hb0
  have HCQ := Lib.hid hCQ
  have HqO := Lib.hid hqo
  have HqI := Lib.hid (show pq.a.In w from by rw [hpa]; exact hqi)
  have HStrA := Lib.hid hstrA
  have HCk := Lib.hid hkeyq
  have HR1 := Lib.hid hR1
  have H1 := Lib.hid h1
  have H2 := Lib.hid h2
  have H3 := Lib.hid h3
  have Hn := Lib.hid hn
  have Hi := Lib.hid hi
  have HA := Lib.hid hA
  have HY := Lib.hid hY
  have hsm : n ≤ 140737488355328 := by omega
  clear hw1 cr ce nc hb0 hCQ hqo hstrA hkeyq hR1 hR h1 h2 h3 hxR hE hX hY hcv hsv hn hk hz hqk hqz hi hqi hA hpf hpa hpq
  go_enter Try.func23, Try.ntmps23
  go_wp2_with (first
    | ((with_reducible show wpList _ _ _ (⟨some 13, _, _, _, _, _⟩ :: _) _ _); rw [show ((w.alloc (.cells Y.toArray 46)).alloc (.cells X.toArray 49)) = w1 from Hw1.out.symm]; refine wpList_loadA (o := ⟨some 13, _, _, _, _, _⟩) (by rfl) 49 (.tmp 5) (by rfl) (w.heap.size + 1) (by rfl) aggAcc z5 hlX ?_)
    | (go_at_call 64; refine Ce.out.mono ?_; rintro e w2 ⟨rfl, b2⟩; have bb2 := Below.then hbel b2; have z42 := z4.kept b2; have z52 := z5.kept b2)
    | (go_at_call 25; refine (Cr.out _ bb2).mono ?_; rintro e w3 ⟨rfl, b3⟩; have bb3 := Below.then bb2 b3; have z43 := z42.kept b3; have z53 := z52.kept b3)
    | ((with_reducible show wpList _ _ _ (⟨some 25, _, _, _, _, _⟩ :: _) _ _); refine wpList_loadA (o := ⟨some 25, _, _, _, _, _⟩) (by rfl) 49 (.tmp 5) (by rfl) (w.heap.size + 1) (by rfl) aggAcc z53 hlX ?_)
    | (go_at_call 65; refine (Nc.out _ bb3).mono ?_; rintro e w4 ⟨rfl, b4⟩))
  have S0 : StO w Y X (.slice none 0 0) [] w4 := (StO.mk bb3 z43 z53 (OwnOf.nil hols 15 _ _ _) (by simp)).kept b4
  clear bb3 z43 z53 b3 z42 z52 b2 bb2 z4 z5 hbel b4
  go_loopw [9, 10, 29] (fun s9 s10 ix wr => OsRel w Y X l A q n s9 s10 ix wr) (fun _ _ ix _ => n - (intOf ix).toNat)
  case atStart => exact ⟨0, _, [], noneB q, by omega, rfl, rfl, rfl, S0, by simp, fun _ => by simp, rfl⟩
  case round =>
    clear S0
    obtain ⟨k, v, O, laid, hkn, rfl, rfl, rfl, S, hlen, hlen2, hfold⟩ := hrel
    replace hlen2 := Lib.hid hlen2
    by_cases hlt : k < n
    · have hki : (k : Int) < (n : Int) := by omega
      have hil : k < l.length := by rw [Hn.out]; exact hlt
      obtain ⟨b, off, rfl, hr⟩ := RowOf.range hols_len (h.below S.b) k hil
      have hip := Hi.out _ (List.getElem_mem hil)
      have hnext := oFold_take A q l k hil
      obtain ⟨p, hp⟩ : ∃ p, p = l[k] := ⟨_, rfl⟩
      rw [← hp] at hr hip hnext
      rw [hfold] at hnext
      obtain ⟨P8, hP8⟩ : ∃ P, P = hols p := ⟨_, rfl⟩
      have hl8 : P8.length = 15 := by rw [hP8]; exact hols_len p
      have ho8 : ∀ u ∈ P8, u.oneCell' = true := by rw [hP8]; exact hols_one hip
      obtain ⟨Z, hZ⟩ : ∃ Z, Z = by8 p.f := ⟨_, rfl⟩
      have hlZ : Z.length = 8 := by rw [hZ, by8_len, p.l]
      have hr4 : ∀ u x, Blk 130 u x P8 → u.rangeAt x 0 Z := fun u x h => by
        rw [hP8] at h
        intro j v hv
        rw [Nat.zero_add, h.cell, hols_addr p j (by have := (List.getElem?_eq_some_iff.1 hv).1; omega), ← hZ]; exact hv
      obtain ⟨F, hF⟩ : ∃ F, F = p.f := ⟨_, rfl⟩
      have hF8 : F.length = 8 := by rw [hF, p.l]
      have hstr : ∀ u x, Blk 130 u x P8 → (convert 22 9 (.slice (some ⟨x, 0, none⟩) 8 8)).run Try.prog u = .ok (str F) u := fun u x h =>
        run_str (P := Try.prog) (src := 22) (dst := 9) elU8.ht (by kernel_rfl) (by kernel_rfl) (Blk.row (f := b8) (size := 1) h F 8 8 (fun _ => rfl) hF8 (fun j x hx => by
          rw [flat_b8] at hx
          rw [hP8, hols_addr p j (by have := (List.getElem?_eq_some_iff.1 hx).1; rw [List.length_map, hF8] at this; exact this), ← hF]; exact hx) (Nat.le_refl _) (by unfold maxLen; omega))
      have s8 := fun u => sl8 wr.heap.size 0 u
      have s9 := fun u => sl8 w.heap.size 0 u
      have hle := less8 F A (by rw [hF8, HA.out])
      have g1 := guard_ne_a p.f A
      have q1 := run_ne_a p.f A p.l HA.out
      rw [← hP8] at hr
      rw [← hZ, ← HY.out] at g1 q1
      have hadr : p.adr = numL F := by rw [hF]; rfl
      have hnv : v.ownBlock ≠ some wr.heap.size := fun e => by have := OwnOf.ltT S.o _ e; omega
      have Hnv := Lib.hid hnv
      have Hr4 := Lib.hid hr4
      have HStrF := Lib.hid hstr
      have HP8 := Lib.hid hP8
      have HpO := Lib.hid (hols_one hip)
      have HpI := Lib.hid hip
      have n4 := Blk.newA wr 130 z15.toArray
      have hb4 : Below wr.heap.size wr (wr.alloc (.cells z15.toArray 130)) := (Below.refl _ _).alloc (Nat.le_refl _) _
      clear hr4 hstr hP8 hip hp hfold hnv
      unfold oStep at hnext
      by_cases he : p.f = A
      · have hne : (!(p.f == A)) = false := by simp [he]
        have hnl : ¬ p.adr < numL A := by unfold Hol.adr; rw [he]; omega
        rw [hne] at q1
        rw [if_neg hnl, if_pos he] at hnext
        have Q1 := Lib.hid q1
        have G1 := Lib.hid g1
        rw [decide_eq_false (by rw [← hadr]; exact hnl)] at hle
        have HNext := Lib.hid hnext
        clear q1 g1 hne hnl hnext hadr he hF hF8 hil
        cases laid with
        | true =>
          go_upto_region 11 with (first
            | ((with_reducible show wpList _ _ _ (⟨some 32, _, _, _, _, _⟩ :: _) _ _); refine wpList_loadW (o := ⟨some 32, _, _, _, _, _⟩) 130 (.tmp 31) (by rfl) b (off + k * 15) (by rfl) aggHol hl8 hr (by rfl) ?_)
            | ((with_reducible show wpList _ _ _ (⟨none, Op.store _ _ (Operand.tmp 32), _, _, _, _⟩ :: _) _ _); refine wpList_storeA (o := ⟨none, _, _, _, _, _⟩) (by rfl) 130 (.tmp 12) (.tmp 32) (by rfl) wr.heap.size P8 (by rfl) (by rfl) aggHol n4 hl8 (by rfl) ho8 hb4 (Nat.le_refl _) ?_; intro w2 z2 b2 _))
          have S1 := S.kept b2
          have k38 := fun u : Ext w2 => HStrF.out u.val wr.heap.size (u.blk z2)
          have k40 := fun u : Ext w2 => HStrA.out u.val (u.blk S1.z4)
          refine wp_region_typed w2 10 (by kernel_rfl) (by kernel_rfl) (Below.refl _ _) ?_; simp only [List.take_succ_cons, List.take_zero, List.take_nil]
          iterate 10 (refine wpX_step (by rfl) (fun K hK => ?_); go_simp; first | (refine hK _ ?_; clear hK K) | (apply Exists.intro; refine ⟨fun _ => ?_, hK _ ?_⟩; fail; clear hK K))
          refine wpX_nil ?_
          intro y3 b3
          change forallRel y3 [] _ _
          simp only [forallRel, List.drop_succ_cons, List.drop_zero, List.drop_nil]
          have S3 := S1.kept b3
          have z3 := z2.kept b3
          clear k38 k40 S1 z2
          go_wp2_with (first
            | ((with_reducible show wpList _ _ _ (⟨some 50, _, _, _, _, _⟩ :: _) _ _); refine wpList_loadW (o := ⟨some 50, _, _, _, _, _⟩) 46 (.tmp 49) (by rfl) wr.heap.size 0 (by rfl) aggAddr hlZ (Hr4.out _ _ z3) (by rfl) ?_)
            | ((with_reducible show wpList _ _ _ (⟨some 51, _, _, _, _, _⟩ :: _) _ _); refine wpList_loadA (o := ⟨some 51, _, _, _, _, _⟩) (by rfl) 46 (.tmp 4) (by rfl) w.heap.size (by rfl) aggAddr S3.z4 hlY ?_)
            | ((with_reducible show wpList _ _ _ (⟨some 52, _, _, _, _, _⟩ :: _) _ _); refine wpList_neqW (o := ⟨some 52, _, _, _, _, _⟩) 46 (.tmp 50) (.tmp 51) 46 (by rfl) (by rfl) (by rfl) G1.out Q1.out (by rfl) ?_))
          go_roundw
          case rel => exact (show OsRel w Y X l A q n _ _ _ _ from ⟨k + 1, v, O, true, by omega, rfl, rfl, by go_num, S3, by first | omega | (simp only [List.length_append, List.length_cons, List.length_nil]; omega), by first | (intro h; cases h; done) | (intro _; simp only [List.length_append, List.length_cons, List.length_nil]; omega), by rw [HNext.out]; simp [HCk.out]⟩)
          case measure => simp [intOf]; omega
        | false =>
          have hlk := hlen2.out rfl
          go_upto_region 11 with (first
            | ((with_reducible show wpList _ _ _ (⟨some 32, _, _, _, _, _⟩ :: _) _ _); refine wpList_loadW (o := ⟨some 32, _, _, _, _, _⟩) 130 (.tmp 31) (by rfl) b (off + k * 15) (by rfl) aggHol hl8 hr (by rfl) ?_)
            | ((with_reducible show wpList _ _ _ (⟨none, Op.store _ _ (Operand.tmp 32), _, _, _, _⟩ :: _) _ _); refine wpList_storeA (o := ⟨none, _, _, _, _, _⟩) (by rfl) 130 (.tmp 12) (.tmp 32) (by rfl) wr.heap.size P8 (by rfl) (by rfl) aggHol n4 hl8 (by rfl) ho8 hb4 (Nat.le_refl _) ?_; intro w2 z2 b2 _))
          have S1 := S.kept b2
          have k38 := fun u : Ext w2 => HStrF.out u.val wr.heap.size (u.blk z2)
          have k40 := fun u : Ext w2 => HStrA.out u.val (u.blk S1.z4)
          refine wp_region_typed w2 10 (by kernel_rfl) (by kernel_rfl) (Below.refl _ _) ?_; simp only [List.take_succ_cons, List.take_zero, List.take_nil]
          iterate 10 (refine wpX_step (by rfl) (fun K hK => ?_); go_simp; first | (refine hK _ ?_; clear hK K) | (apply Exists.intro; refine ⟨fun _ => ?_, hK _ ?_⟩; fail; clear hK K))
          refine wpX_nil ?_
          intro y3 b3
          change forallRel y3 [] _ _
          simp only [forallRel, List.drop_succ_cons, List.drop_zero, List.drop_nil]
          have S3 := S1.kept b3
          have z3 := z2.kept b3
          clear k38 k40 S1 z2
          go_wp2_with (first
            | ((with_reducible show wpList _ _ _ (⟨some 44, _, _, _, _, _⟩ :: _) _ _); refine wpList_loadA (o := ⟨some 44, _, _, _, _, _⟩) (by rfl) 46 (.tmp 4) (by rfl) w.heap.size (by rfl) aggAddr S3.z4 hlY ?_)
            | ((with_reducible show wpList _ _ _ (⟨some 45, _, _, _, _, _⟩ :: _) _ _); refine wpList_loadA (o := ⟨some 45, _, _, _, _, _⟩) (by rfl) 49 (.tmp 5) (by rfl) (w.heap.size + 1) (by rfl) aggAcc S3.z5 hlX ?_)
            | ((with_reducible show wpList _ _ _ (⟨some 46, _, _, _, _, _⟩ :: _) _ _); refine wpList_buildB (o := ⟨some 46, _, _, _, _, _⟩) (by rfl) 130 [(0, .tmp 44), (1, .tmp 45)] (by rfl) _ (by rfl) CQ.toArray HB.out ?_)
            | ((with_reducible show wpList _ _ _ (⟨some 47, _, _, _, _, _⟩ :: _) _ _); refine wpList_one (o := ⟨some 47, _, _, _, _, _⟩) (by rfl) (.tmp 46) (by rfl) pq CQ HCQ.out (by rfl) ?_; intro y4 r4 b4; have S4 := S3.kept b4; have z4' := z3.kept b4)
            | ((with_reducible show wpList _ _ _ (⟨some 48, _, _, _, _, _⟩ :: _) _ _); refine wpList_appB (o := ⟨some 48, _, _, _, _, _⟩) (by rfl) (.tmp 43) (.tmp 47) 44 (by rfl) elHol (by simpa using HqO.out) (by rfl) S4.o (by rfl) r4 S4.b.size (by simp only [List.length_append, List.length_cons, List.length_nil]; omega) (by simp only [List.length_append, List.length_cons, List.length_nil]; unfold maxLen; omega) ?_; intro v5 y5 o5 g5 _; have S5 := S4.grew HqI.out o5 g5; have z5' := z4'.grown g5 Hnv.out)
            | ((with_reducible show wpList _ _ _ (⟨some 50, _, _, _, _, _⟩ :: _) _ _); refine wpList_loadW (o := ⟨some 50, _, _, _, _, _⟩) 46 (.tmp 49) (by rfl) wr.heap.size 0 (by rfl) aggAddr hlZ (Hr4.out _ _ z5') (by rfl) ?_)
            | ((with_reducible show wpList _ _ _ (⟨some 51, _, _, _, _, _⟩ :: _) _ _); refine wpList_loadA (o := ⟨some 51, _, _, _, _, _⟩) (by rfl) 46 (.tmp 4) (by rfl) w.heap.size (by rfl) aggAddr S5.z4 hlY ?_)
            | ((with_reducible show wpList _ _ _ (⟨some 52, _, _, _, _, _⟩ :: _) _ _); refine wpList_neqW (o := ⟨some 52, _, _, _, _, _⟩) 46 (.tmp 50) (.tmp 51) 46 (by rfl) (by rfl) (by rfl) G1.out Q1.out (by rfl) ?_))
          go_roundw
          case rel => exact (show OsRel w Y X l A q n _ _ _ _ from ⟨k + 1, v5, O ++ [pq], true, by omega, rfl, rfl, by go_num, S5, by first | omega | (simp only [List.length_append, List.length_cons, List.length_nil]; omega), by first | (intro h; cases h; done) | (intro _; simp only [List.length_append, List.length_cons, List.length_nil]; omega), by rw [HNext.out]; simp [HCk.out]⟩)
          case measure => simp [intOf]; omega
      · have hne : (!(p.f == A)) = true := by simp [he]
        rw [hne] at q1
        have Q1 := Lib.hid q1
        have G1 := Lib.hid g1
        by_cases hlow : p.adr < numL A
        · rw [if_pos hlow] at hnext
          rw [decide_eq_true (by rw [← hadr]; exact hlow)] at hle
          have HNext := Lib.hid hnext
          clear q1 g1 hne hlow hnext hadr he hF hF8 hil
          cases laid with
          | true =>
            go_upto_region 11 with (first
              | ((with_reducible show wpList _ _ _ (⟨some 32, _, _, _, _, _⟩ :: _) _ _); refine wpList_loadW (o := ⟨some 32, _, _, _, _, _⟩) 130 (.tmp 31) (by rfl) b (off + k * 15) (by rfl) aggHol hl8 hr (by rfl) ?_)
              | ((with_reducible show wpList _ _ _ (⟨none, Op.store _ _ (Operand.tmp 32), _, _, _, _⟩ :: _) _ _); refine wpList_storeA (o := ⟨none, _, _, _, _, _⟩) (by rfl) 130 (.tmp 12) (.tmp 32) (by rfl) wr.heap.size P8 (by rfl) (by rfl) aggHol n4 hl8 (by rfl) ho8 hb4 (Nat.le_refl _) ?_; intro w2 z2 b2 _))
            have S1 := S.kept b2
            have k38 := fun u : Ext w2 => HStrF.out u.val wr.heap.size (u.blk z2)
            have k40 := fun u : Ext w2 => HStrA.out u.val (u.blk S1.z4)
            refine wp_region_typed w2 10 (by kernel_rfl) (by kernel_rfl) (Below.refl _ _) ?_; simp only [List.take_succ_cons, List.take_zero, List.take_nil]
            iterate 10 (refine wpX_step (by rfl) (fun K hK => ?_); go_simp; first | (refine hK _ ?_; clear hK K) | (apply Exists.intro; refine ⟨fun _ => ?_, hK _ ?_⟩; fail; clear hK K))
            refine wpX_nil ?_
            intro y3 b3
            change forallRel y3 [] _ _
            simp only [forallRel, List.drop_succ_cons, List.drop_zero, List.drop_nil]
            have S3 := S1.kept b3
            have z3 := z2.kept b3
            clear k38 k40 S1 z2
            go_wp2_with (first
              | ((with_reducible show wpList _ _ _ (⟨some 50, _, _, _, _, _⟩ :: _) _ _); refine wpList_loadW (o := ⟨some 50, _, _, _, _, _⟩) 46 (.tmp 49) (by rfl) wr.heap.size 0 (by rfl) aggAddr hlZ (Hr4.out _ _ z3) (by rfl) ?_)
              | ((with_reducible show wpList _ _ _ (⟨some 51, _, _, _, _, _⟩ :: _) _ _); refine wpList_loadA (o := ⟨some 51, _, _, _, _, _⟩) (by rfl) 46 (.tmp 4) (by rfl) w.heap.size (by rfl) aggAddr S3.z4 hlY ?_)
              | ((with_reducible show wpList _ _ _ (⟨some 52, _, _, _, _, _⟩ :: _) _ _); refine wpList_neqW (o := ⟨some 52, _, _, _, _, _⟩) 46 (.tmp 50) (.tmp 51) 46 (by rfl) (by rfl) (by rfl) G1.out Q1.out (by rfl) ?_)
              | ((with_reducible show wpList _ _ _ (⟨some 54, _, _, _, _, _⟩ :: _) _ _); refine wpList_loadA (o := ⟨some 54, _, _, _, _, _⟩) (by rfl) 130 (.tmp 12) (by rfl) wr.heap.size (by rfl) aggHol z3 hl8 ?_)
              | ((with_reducible show wpList _ _ _ (⟨some 55, _, _, _, _, _⟩ :: _) _ _); refine wpList_one (o := ⟨some 55, _, _, _, _, _⟩) (by rfl) (.tmp 54) (by rfl) p P8 HP8.out (by rfl) ?_; intro y6 r6 b6; have S6 := S3.kept b6)
              | ((with_reducible show wpList _ _ _ (⟨some 56, _, _, _, _, _⟩ :: _) _ _); refine wpList_appB (o := ⟨some 56, _, _, _, _, _⟩) (by rfl) (.tmp 53) (.tmp 55) 44 (by rfl) elHol (by simpa using HpO.out) (by rfl) S6.o (by rfl) r6 S6.b.size (by simp only [List.length_append, List.length_cons, List.length_nil]; omega) (by simp only [List.length_append, List.length_cons, List.length_nil]; unfold maxLen; omega) ?_; intro v7 y7 o7 g7 _; have S7 := S6.grew HpI.out o7 g7))
            go_roundw
            case rel => exact (show OsRel w Y X l A q n _ _ _ _ from ⟨k + 1, v7, (O) ++ [p], true, by omega, rfl, rfl, by go_num, S7, by first | omega | (simp only [List.length_append, List.length_cons, List.length_nil]; omega), by first | (intro h; cases h; done) | (intro _; simp only [List.length_append, List.length_cons, List.length_nil]; omega), by rw [HNext.out]; simp [HCk.out]⟩)
            case measure => simp [intOf]; omega
          | false =>
            have hlk := hlen2.out rfl
            go_upto_region 11 with (first
              | ((with_reducible show wpList _ _ _ (⟨some 32, _, _, _, _, _⟩ :: _) _ _); refine wpList_loadW (o := ⟨some 32, _, _, _, _, _⟩) 130 (.tmp 31) (by rfl) b (off + k * 15) (by rfl) aggHol hl8 hr (by rfl) ?_)
              | ((with_reducible show wpList _ _ _ (⟨none, Op.store _ _ (Operand.tmp 32), _, _, _, _⟩ :: _) _ _); refine wpList_storeA (o := ⟨none, _, _, _, _, _⟩) (by rfl) 130 (.tmp 12) (.tmp 32) (by rfl) wr.heap.size P8 (by rfl) (by rfl) aggHol n4 hl8 (by rfl) ho8 hb4 (Nat.le_refl _) ?_; intro w2 z2 b2 _))
            have S1 := S.kept b2
            have k38 := fun u : Ext w2 => HStrF.out u.val wr.heap.size (u.blk z2)
            have k40 := fun u : Ext w2 => HStrA.out u.val (u.blk S1.z4)
            refine wp_region_typed w2 10 (by kernel_rfl) (by kernel_rfl) (Below.refl _ _) ?_; simp only [List.take_succ_cons, List.take_zero, List.take_nil]
            iterate 10 (refine wpX_step (by rfl) (fun K hK => ?_); go_simp; first | (refine hK _ ?_; clear hK K) | (apply Exists.intro; refine ⟨fun _ => ?_, hK _ ?_⟩; fail; clear hK K))
            refine wpX_nil ?_
            intro y3 b3
            change forallRel y3 [] _ _
            simp only [forallRel, List.drop_succ_cons, List.drop_zero, List.drop_nil]
            have S3 := S1.kept b3
            have z3 := z2.kept b3
            clear k38 k40 S1 z2
            go_wp2_with (first
              | ((with_reducible show wpList _ _ _ (⟨some 50, _, _, _, _, _⟩ :: _) _ _); refine wpList_loadW (o := ⟨some 50, _, _, _, _, _⟩) 46 (.tmp 49) (by rfl) wr.heap.size 0 (by rfl) aggAddr hlZ (Hr4.out _ _ z3) (by rfl) ?_)
              | ((with_reducible show wpList _ _ _ (⟨some 51, _, _, _, _, _⟩ :: _) _ _); refine wpList_loadA (o := ⟨some 51, _, _, _, _, _⟩) (by rfl) 46 (.tmp 4) (by rfl) w.heap.size (by rfl) aggAddr S3.z4 hlY ?_)
              | ((with_reducible show wpList _ _ _ (⟨some 52, _, _, _, _, _⟩ :: _) _ _); refine wpList_neqW (o := ⟨some 52, _, _, _, _, _⟩) 46 (.tmp 50) (.tmp 51) 46 (by rfl) (by rfl) (by rfl) G1.out Q1.out (by rfl) ?_)
              | ((with_reducible show wpList _ _ _ (⟨some 54, _, _, _, _, _⟩ :: _) _ _); refine wpList_loadA (o := ⟨some 54, _, _, _, _, _⟩) (by rfl) 130 (.tmp 12) (by rfl) wr.heap.size (by rfl) aggHol z3 hl8 ?_)
              | ((with_reducible show wpList _ _ _ (⟨some 55, _, _, _, _, _⟩ :: _) _ _); refine wpList_one (o := ⟨some 55, _, _, _, _, _⟩) (by rfl) (.tmp 54) (by rfl) p P8 HP8.out (by rfl) ?_; intro y6 r6 b6; have S6 := S3.kept b6)
              | ((with_reducible show wpList _ _ _ (⟨some 56, _, _, _, _, _⟩ :: _) _ _); refine wpList_appB (o := ⟨some 56, _, _, _, _, _⟩) (by rfl) (.tmp 53) (.tmp 55) 44 (by rfl) elHol (by simpa using HpO.out) (by rfl) S6.o (by rfl) r6 S6.b.size (by simp only [List.length_append, List.length_cons, List.length_nil]; omega) (by simp only [List.length_append, List.length_cons, List.length_nil]; unfold maxLen; omega) ?_; intro v7 y7 o7 g7 _; have S7 := S6.grew HpI.out o7 g7))
            go_roundw
            case rel => exact (show OsRel w Y X l A q n _ _ _ _ from ⟨k + 1, v7, (O) ++ [p], false, by omega, rfl, rfl, by go_num, S7, by first | omega | (simp only [List.length_append, List.length_cons, List.length_nil]; omega), by first | (intro h; cases h; done) | (intro _; simp only [List.length_append, List.length_cons, List.length_nil]; omega), by rw [HNext.out]; simp [HCk.out]⟩)
            case measure => simp [intOf]; omega
        · rw [if_neg hlow, if_neg he] at hnext
          rw [decide_eq_false (by rw [← hadr]; exact hlow)] at hle
          have HNext := Lib.hid hnext
          clear q1 g1 hne hlow hnext hadr he hF hF8 hil
          cases laid with
          | true =>
            go_upto_region 11 with (first
              | ((with_reducible show wpList _ _ _ (⟨some 32, _, _, _, _, _⟩ :: _) _ _); refine wpList_loadW (o := ⟨some 32, _, _, _, _, _⟩) 130 (.tmp 31) (by rfl) b (off + k * 15) (by rfl) aggHol hl8 hr (by rfl) ?_)
              | ((with_reducible show wpList _ _ _ (⟨none, Op.store _ _ (Operand.tmp 32), _, _, _, _⟩ :: _) _ _); refine wpList_storeA (o := ⟨none, _, _, _, _, _⟩) (by rfl) 130 (.tmp 12) (.tmp 32) (by rfl) wr.heap.size P8 (by rfl) (by rfl) aggHol n4 hl8 (by rfl) ho8 hb4 (Nat.le_refl _) ?_; intro w2 z2 b2 _))
            have S1 := S.kept b2
            have k38 := fun u : Ext w2 => HStrF.out u.val wr.heap.size (u.blk z2)
            have k40 := fun u : Ext w2 => HStrA.out u.val (u.blk S1.z4)
            refine wp_region_typed w2 10 (by kernel_rfl) (by kernel_rfl) (Below.refl _ _) ?_; simp only [List.take_succ_cons, List.take_zero, List.take_nil]
            iterate 10 (refine wpX_step (by rfl) (fun K hK => ?_); go_simp; first | (refine hK _ ?_; clear hK K) | (apply Exists.intro; refine ⟨fun _ => ?_, hK _ ?_⟩; fail; clear hK K))
            refine wpX_nil ?_
            intro y3 b3
            change forallRel y3 [] _ _
            simp only [forallRel, List.drop_succ_cons, List.drop_zero, List.drop_nil]
            have S3 := S1.kept b3
            have z3 := z2.kept b3
            clear k38 k40 S1 z2
            go_wp2_with (first
              | ((with_reducible show wpList _ _ _ (⟨some 50, _, _, _, _, _⟩ :: _) _ _); refine wpList_loadW (o := ⟨some 50, _, _, _, _, _⟩) 46 (.tmp 49) (by rfl) wr.heap.size 0 (by rfl) aggAddr hlZ (Hr4.out _ _ z3) (by rfl) ?_)
              | ((with_reducible show wpList _ _ _ (⟨some 51, _, _, _, _, _⟩ :: _) _ _); refine wpList_loadA (o := ⟨some 51, _, _, _, _, _⟩) (by rfl) 46 (.tmp 4) (by rfl) w.heap.size (by rfl) aggAddr S3.z4 hlY ?_)
              | ((with_reducible show wpList _ _ _ (⟨some 52, _, _, _, _, _⟩ :: _) _ _); refine wpList_neqW (o := ⟨some 52, _, _, _, _, _⟩) 46 (.tmp 50) (.tmp 51) 46 (by rfl) (by rfl) (by rfl) G1.out Q1.out (by rfl) ?_)
              | ((with_reducible show wpList _ _ _ (⟨some 54, _, _, _, _, _⟩ :: _) _ _); refine wpList_loadA (o := ⟨some 54, _, _, _, _, _⟩) (by rfl) 130 (.tmp 12) (by rfl) wr.heap.size (by rfl) aggHol z3 hl8 ?_)
              | ((with_reducible show wpList _ _ _ (⟨some 55, _, _, _, _, _⟩ :: _) _ _); refine wpList_one (o := ⟨some 55, _, _, _, _, _⟩) (by rfl) (.tmp 54) (by rfl) p P8 HP8.out (by rfl) ?_; intro y6 r6 b6; have S6 := S3.kept b6)
              | ((with_reducible show wpList _ _ _ (⟨some 56, _, _, _, _, _⟩ :: _) _ _); refine wpList_appB (o := ⟨some 56, _, _, _, _, _⟩) (by rfl) (.tmp 53) (.tmp 55) 44 (by rfl) elHol (by simpa using HpO.out) (by rfl) S6.o (by rfl) r6 S6.b.size (by simp only [List.length_append, List.length_cons, List.length_nil]; omega) (by simp only [List.length_append, List.length_cons, List.length_nil]; unfold maxLen; omega) ?_; intro v7 y7 o7 g7 _; have S7 := S6.grew HpI.out o7 g7))
            go_roundw
            case rel => exact (show OsRel w Y X l A q n _ _ _ _ from ⟨k + 1, v7, (O) ++ [p], true, by omega, rfl, rfl, by go_num, S7, by first | omega | (simp only [List.length_append, List.length_cons, List.length_nil]; omega), by first | (intro h; cases h; done) | (intro _; simp only [List.length_append, List.length_cons, List.length_nil]; omega), by rw [HNext.out]; simp [HCk.out]⟩)
            case measure => simp [intOf]; omega
          | false =>
            have hlk := hlen2.out rfl
            go_upto_region 11 with (first
              | ((with_reducible show wpList _ _ _ (⟨some 32, _, _, _, _, _⟩ :: _) _ _); refine wpList_loadW (o := ⟨some 32, _, _, _, _, _⟩) 130 (.tmp 31) (by rfl) b (off + k * 15) (by rfl) aggHol hl8 hr (by rfl) ?_)
              | ((with_reducible show wpList _ _ _ (⟨none, Op.store _ _ (Operand.tmp 32), _, _, _, _⟩ :: _) _ _); refine wpList_storeA (o := ⟨none, _, _, _, _, _⟩) (by rfl) 130 (.tmp 12) (.tmp 32) (by rfl) wr.heap.size P8 (by rfl) (by rfl) aggHol n4 hl8 (by rfl) ho8 hb4 (Nat.le_refl _) ?_; intro w2 z2 b2 _))
            have S1 := S.kept b2
            have k38 := fun u : Ext w2 => HStrF.out u.val wr.heap.size (u.blk z2)
            have k40 := fun u : Ext w2 => HStrA.out u.val (u.blk S1.z4)
            refine wp_region_typed w2 10 (by kernel_rfl) (by kernel_rfl) (Below.refl _ _) ?_; simp only [List.take_succ_cons, List.take_zero, List.take_nil]
            iterate 10 (refine wpX_step (by rfl) (fun K hK => ?_); go_simp; first | (refine hK _ ?_; clear hK K) | (apply Exists.intro; refine ⟨fun _ => ?_, hK _ ?_⟩; fail; clear hK K))
            refine wpX_nil ?_
            intro y3 b3
            change forallRel y3 [] _ _
            simp only [forallRel, List.drop_succ_cons, List.drop_zero, List.drop_nil]
            have S3 := S1.kept b3
            have z3 := z2.kept b3
            clear k38 k40 S1 z2
            go_upto_region 14 with (first
              | ((with_reducible show wpList _ _ _ (⟨some 44, _, _, _, _, _⟩ :: _) _ _); refine wpList_loadA (o := ⟨some 44, _, _, _, _, _⟩) (by rfl) 46 (.tmp 4) (by rfl) w.heap.size (by rfl) aggAddr S3.z4 hlY ?_)
              | ((with_reducible show wpList _ _ _ (⟨some 45, _, _, _, _, _⟩ :: _) _ _); refine wpList_loadA (o := ⟨some 45, _, _, _, _, _⟩) (by rfl) 49 (.tmp 5) (by rfl) (w.heap.size + 1) (by rfl) aggAcc S3.z5 hlX ?_)
              | ((with_reducible show wpList _ _ _ (⟨some 46, _, _, _, _, _⟩ :: _) _ _); refine wpList_buildB (o := ⟨some 46, _, _, _, _, _⟩) (by rfl) 130 [(0, .tmp 44), (1, .tmp 45)] (by rfl) _ (by rfl) CQ.toArray HB.out ?_)
              | ((with_reducible show wpList _ _ _ (⟨some 47, _, _, _, _, _⟩ :: _) _ _); refine wpList_one (o := ⟨some 47, _, _, _, _, _⟩) (by rfl) (.tmp 46) (by rfl) pq CQ HCQ.out (by rfl) ?_; intro y4 r4 b4; have S4 := S3.kept b4; have z4' := z3.kept b4)
              | ((with_reducible show wpList _ _ _ (⟨some 48, _, _, _, _, _⟩ :: _) _ _); refine wpList_appB (o := ⟨some 48, _, _, _, _, _⟩) (by rfl) (.tmp 43) (.tmp 47) 44 (by rfl) elHol (by simpa using HqO.out) (by rfl) S4.o (by rfl) r4 S4.b.size (by simp only [List.length_append, List.length_cons, List.length_nil]; omega) (by simp only [List.length_append, List.length_cons, List.length_nil]; unfold maxLen; omega) ?_; intro v5 y5 o5 g5 _; have S5 := S4.grew HqI.out o5 g5; have z5' := z4'.grown g5 Hnv.out))
            have hl5 : (O ++ [pq]).length ≤ k + 1 := by simp only [List.length_append, List.length_cons, List.length_nil]; omega
            obtain ⟨O2, hO2⟩ : ∃ O2, O2 = O ++ [pq] := ⟨_, rfl⟩
            rw [← hO2] at S5 hl5
            have HO2 := Lib.hid hO2
            clear hO2 o5 g5 r4 b4 S4 z4' S3 z3 hlen hlk S
            go_wp2_with (first
              | ((with_reducible show wpList _ _ _ (⟨some 50, _, _, _, _, _⟩ :: _) _ _); refine wpList_loadW (o := ⟨some 50, _, _, _, _, _⟩) 46 (.tmp 49) (by rfl) wr.heap.size 0 (by rfl) aggAddr hlZ (Hr4.out _ _ z5') (by rfl) ?_)
              | ((with_reducible show wpList _ _ _ (⟨some 51, _, _, _, _, _⟩ :: _) _ _); refine wpList_loadA (o := ⟨some 51, _, _, _, _, _⟩) (by rfl) 46 (.tmp 4) (by rfl) w.heap.size (by rfl) aggAddr S5.z4 hlY ?_)
              | ((with_reducible show wpList _ _ _ (⟨some 52, _, _, _, _, _⟩ :: _) _ _); refine wpList_neqW (o := ⟨some 52, _, _, _, _, _⟩) 46 (.tmp 50) (.tmp 51) 46 (by rfl) (by rfl) (by rfl) G1.out Q1.out (by rfl) ?_)
              | ((with_reducible show wpList _ _ _ (⟨some 54, _, _, _, _, _⟩ :: _) _ _); refine wpList_loadA (o := ⟨some 54, _, _, _, _, _⟩) (by rfl) 130 (.tmp 12) (by rfl) wr.heap.size (by rfl) aggHol z5' hl8 ?_)
              | ((with_reducible show wpList _ _ _ (⟨some 55, _, _, _, _, _⟩ :: _) _ _); refine wpList_one (o := ⟨some 55, _, _, _, _, _⟩) (by rfl) (.tmp 54) (by rfl) p P8 HP8.out (by rfl) ?_; intro y6 r6 b6; have S6 := S5.kept b6)
              | ((with_reducible show wpList _ _ _ (⟨some 56, _, _, _, _, _⟩ :: _) _ _); refine wpList_appB (o := ⟨some 56, _, _, _, _, _⟩) (by rfl) (.tmp 53) (.tmp 55) 44 (by rfl) elHol (by simpa using HpO.out) (by rfl) S6.o (by rfl) r6 S6.b.size (by simp only [List.length_append, List.length_cons, List.length_nil]; omega) (by simp only [List.length_append, List.length_cons, List.length_nil]; unfold maxLen; omega) ?_; intro v7 y7 o7 g7 _; have S7 := S6.grew HpI.out o7 g7))
            go_roundw
            case rel => exact (show OsRel w Y X l A q n _ _ _ _ from ⟨k + 1, v7, O2 ++ [p], true, by omega, rfl, rfl, by go_num, S7, by simp only [List.length_append, List.length_cons, List.length_nil]; omega, (by intro h; cases h), by rw [HNext.out]; simp [HCk.out, HO2.out]⟩)
            case measure => simp [intOf]; omega
    · obtain rfl : k = n := by omega
      have hki : ¬ (k : Int) < (k : Int) := by omega
      rw [List.take_of_length_le (by rw [Hn.out]; exact Nat.le_refl _)] at hfold
      have hlaw := oFold_law HA.out q HR1.out
      rw [hfold] at hlaw
      have HLaw := Lib.hid hlaw
      clear hlaw hfold
      cases laid with
      | true =>
        go_wp2_with fail
        go_ret2
        exact ⟨v, O, 0, rfl, S.o.row, fun h hh => (S.q h hh).below S.b, .inr (.inr ⟨H1.out, H2.out, H3.out, rfl, HLaw.out⟩), S.b⟩
      | false =>
        have hlk := hlen2.out rfl
        go_wp2_with (first
          | ((with_reducible show wpList _ _ _ (⟨some 61, _, _, _, _, _⟩ :: _) _ _); refine wpList_loadA (o := ⟨some 61, _, _, _, _, _⟩) (by rfl) 46 (.tmp 4) (by rfl) w.heap.size (by rfl) aggAddr S.z4 hlY ?_)
          | ((with_reducible show wpList _ _ _ (⟨some 62, _, _, _, _, _⟩ :: _) _ _); refine wpList_loadA (o := ⟨some 62, _, _, _, _, _⟩) (by rfl) 49 (.tmp 5) (by rfl) (w.heap.size + 1) (by rfl) aggAcc S.z5 hlX ?_)
          | ((with_reducible show wpList _ _ _ (⟨some 63, _, _, _, _, _⟩ :: _) _ _); refine wpList_buildB (o := ⟨some 63, _, _, _, _, _⟩) (by rfl) 130 [(0, .tmp 61), (1, .tmp 62)] (by rfl) _ (by rfl) CQ.toArray HB.out ?_)
          | ((with_reducible show wpList _ _ _ (⟨some 64, _, _, _, _, _⟩ :: _) _ _); refine wpList_one (o := ⟨some 64, _, _, _, _, _⟩) (by rfl) (.tmp 63) (by rfl) pq CQ HCQ.out (by rfl) ?_; intro y4 r4 b4; have S4 := S.kept b4)
          | ((with_reducible show wpList _ _ _ (⟨some 65, _, _, _, _, _⟩ :: _) _ _); refine wpList_appB (o := ⟨some 65, _, _, _, _, _⟩) (by rfl) (.tmp 60) (.tmp 64) 44 (by rfl) elHol (by simpa using HqO.out) (by rfl) S4.o (by rfl) r4 S4.b.size (by simp only [List.length_append, List.length_cons, List.length_nil]; omega) (by simp only [List.length_append, List.length_cons, List.length_nil]; unfold maxLen; omega) ?_; intro v5 y5 o5 g5 _; have S5 := S4.grew HqI.out o5 g5))
        go_ret2
        exact ⟨v5, O ++ [pq], 0, rfl, S5.o.row, fun h hh => (S5.q h hh).below S5.b, .inr (.inr ⟨H1.out, H2.out, H3.out, rfl, by rw [← HLaw.out]; simp [HCk.out]⟩), S5.b⟩
end Go.Proofs.Ytakhaanenlblmaa
