/- The reference's OGet. | The reference's OSet: the plain law; the state of its loop. | The reference's OSet: where it refuses. -/
import Derived.Test.YtakhaanenlblmaaWsD
/- (Ws19) The reference's OGet. -/
set_option linter.unusedSimpArgs false
set_option linter.unusedVariables false
namespace Go.Proofs.Ytakhaanenlblmaa
open Go.RowKit
set_option maxHeartbeats 4000000 in
set_option maxRecDepth 100000 in
theorem oget_any (a : Option Addr) (n c : Nat) (l : List Hol) (hn : l.length = n) (hk : ∀ h ∈ l, h.a.Ok) (A : List UInt8) (hA : A.length = 8) (w : World) (h : RowOf hols 15 w (.slice a n c) l) (hi : ∀ h ∈ l, h.a.In w) :
    Calls Try.prog 21 #[.slice a n c, .agg (by8 A).toArray] w (GetPost l (numL A) w) := by
  obtain ⟨w1, hw1⟩ : ∃ w1, w1 = (w.alloc (.cells (by8 A).toArray 46)).alloc (.cells z7.toArray 49) := ⟨_, rfl⟩
  have z3 : Blk 46 w1 w.heap.size (by8 A) := by rw [hw1]; exact (Blk.new w _ _).alloc _
  have z4 : Blk 49 w1 (w.heap.size + 1) z7 := by
    rw [hw1]
    have := Blk.new (w.alloc (.cells (by8 A).toArray 46)) 49 z7
    simpa using this
  have hbel : Below w.heap.size w w1 := by rw [hw1]; exact ((Below.refl _ _).alloc (Nat.le_refl _) _).alloc (by simp) _
  have cr := oright_any a n c l hn hk w1 (h.below hbel) (fun q hq => (hi q hq).below hbel)
  obtain ⟨xR, hxR⟩ : ∃ x, x = rightB l := ⟨_, rfl⟩
  rw [← hxR] at cr
  have hsm := h.small
  unfold maxLen at hsm
  rw [hn] at hsm
  obtain ⟨T, hT⟩ : ∃ T, T = numL A := ⟨_, rfl⟩
  rw [← hT]
  obtain ⟨Y, hY⟩ : ∃ Y, Y = by8 A := ⟨_, rfl⟩
  have hlY : Y.length = 8 := by rw [hY, by8_len, hA]
  rw [← hY] at z3 hw1 ⊢
  have Cr := Lib.hid cr
  have Hw1 := Lib.hid hw1
  have HxR := Lib.hid hxR
  have Hn := Lib.hid hn
  have Hi := Lib.hid hi
  have HT := Lib.hid hT
  have HY := Lib.hid hY
  have HA := Lib.hid hA
  have hzo : ∀ u ∈ z7, u.oneCell' = true := by intro u hu; unfold z7 at hu; simp only [List.mem_cons, List.not_mem_nil, or_false] at hu; rcases hu with rfl | rfl | rfl | rfl | rfl | rfl | rfl <;> rfl
  clear cr hw1 hxR hT hY hn hi hk hA
  cases xR with
  | false =>
    go_enter Try.func21, Try.ntmps21
    go_wp2_with (first
      | (go_at_call 25; rw [show ((w.alloc (.cells Y.toArray 46)).alloc (.cells #[.int .u64 0, .int .u64 0, .int .u64 0, .int .u64 0, .int .u64 0, .slice none 0 0, .slice none 0 0] 49)) = w1 from Hw1.out.symm]; refine Cr.out.mono ?_; rintro e w2 ⟨rfl, b2⟩; have bb2 := Below.then hbel b2; have z42 := z4.kept b2; have z32 := z3.kept b2)
      | ((with_reducible show wpList _ _ _ (⟨none, Op.store _ _ (Operand.tmp 11), _, _, _, _⟩ :: _) _ _); refine wpList_storeA (o := ⟨none, _, _, _, _, _⟩) (by rfl) 49 (.tmp 4) (.tmp 11) (by rfl) (w.heap.size + 1) z7 (by rfl) (by rfl) aggAcc z42 rfl rfl hzo bb2 (Nat.le_succ _) ?_; intro w5 hb5 bb5 _))
    refine bodyPost_ret (results_blk_tmp rfl _ _ (w.heap.size + 1) aggAcc hb5 rfl rfl rfl) rfl ?_
    exact ⟨zA, 1, rfl, .inl ⟨HxR.out.symm, rfl, rfl⟩, zA_in _, bb5⟩
  | true =>
    go_enter Try.func21, Try.ntmps21
    go_wp2_with (first | (go_at_call 25; rw [show ((w.alloc (.cells Y.toArray 46)).alloc (.cells #[.int .u64 0, .int .u64 0, .int .u64 0, .int .u64 0, .int .u64 0, .slice none 0 0, .slice none 0 0] 49)) = w1 from Hw1.out.symm]; refine Cr.out.mono ?_; rintro e w2 ⟨rfl, b2⟩; have bb2 := Below.then hbel b2; have z42 := z4.kept b2; have z32 := z3.kept b2))
    have Q0 : Below w.heap.size w w2 ∧ Blk 46 w2 w.heap.size Y ∧ Blk 49 w2 (w.heap.size + 1) z7 := ⟨bb2, z32, z42⟩
    go_loopw [14] (fun ix wr => ∃ k : Nat, k ≤ n ∧ ix = .int .i64 (k : Int) ∧ (Below w.heap.size w wr ∧ Blk 46 wr w.heap.size Y ∧ Blk 49 wr (w.heap.size + 1) z7) ∧ Hid (∀ j (hj : j < l.length), j < k → l[j].adr ≠ T)) (fun ix _ => n - (intOf ix).toNat)
    case atStart => exact ⟨0, by omega, rfl, Q0, Lib.hid (fun j hj h => by omega)⟩
    case round =>
      clear Q0 bb2 z32 z42 b2 z3 z4 hbel
      obtain ⟨k, hkn, rfl, ⟨hbr, y3, y4⟩, hno⟩ := hrel
      by_cases hlt : k < n
      · have hki : (k : Int) < (n : Int) := by omega
        have hil : k < l.length := by rw [Hn.out]; exact hlt
        obtain ⟨b, off, rfl, hr⟩ := RowOf.range hols_len (h.below hbr) k hil
        have hip := (Hi.out _ (List.getElem_mem hil)).below hbr
        obtain ⟨p, hp⟩ : ∃ p, p = l[k] := ⟨_, rfl⟩
        rw [← hp] at hr hip
        obtain ⟨P8, hP8⟩ : ∃ P, P = hols p := ⟨_, rfl⟩
        have hl8 : P8.length = 15 := by rw [hP8]; exact hols_len p
        have ho8 : ∀ u ∈ P8, u.oneCell' = true := by rw [hP8]; exact hols_one hip
        obtain ⟨V, hV⟩ : ∃ Y, Y = accs p.a := ⟨_, rfl⟩
        obtain ⟨Z, hZ⟩ : ∃ Z, Z = by8 p.f := ⟨_, rfl⟩
        have hlV : V.length = 7 := by rw [hV]; rfl
        have hlZ : Z.length = 8 := by rw [hZ, by8_len, p.l]
        have hoV : ∀ u ∈ V, u.oneCell' = true := by rw [hV]; exact accs_one hip
        have hr4 : ∀ u x, Blk 130 u x P8 → u.rangeAt x 0 Z ∧ u.rangeAt x 8 V := fun u x h => by
          rw [hP8] at h
          refine ⟨fun j v hv => ?_, fun j v hv => ?_⟩
          · rw [Nat.zero_add, h.cell, hols_addr p j (by have := (List.getElem?_eq_some_iff.1 hv).1; omega), ← hZ]; exact hv
          · rw [h.cell, hols_from, ← hV]; exact hv
        have g1 := guard_eq_a p.f A
        have q1 := run_eq_a p.f A p.l HA.out
        rw [← hP8] at hr
        rw [← hZ, ← HY.out] at g1 q1
        have Hr4 := Lib.hid hr4
        have n4 := Blk.newA wr 130 z15.toArray
        have hb4 : Below wr.heap.size wr (wr.alloc (.cells z15.toArray 130)) := (Below.refl _ _).alloc (Nat.le_refl _) _
        have Hp := Lib.hid hp
        have HV := Lib.hid hV
        have Hip := Lib.hid hip
        clear hr4 hV hP8 hip hp
        by_cases he : p.f = A
        · have hne : (p.f == A) = true := by simp [he]
          rw [hne] at q1
          have Q1 := Lib.hid q1
          have G1 := Lib.hid g1
          have Hg : Hid (GetR l T p.a.val 0) := Lib.hid (.inr ⟨HxR.out.symm, rfl, .inl ⟨k, hil, by rw [← Hp.out, HT.out]; unfold Hol.adr; rw [he], by rw [← Hp.out]⟩⟩)
          clear q1 g1 hne he
          go_wp2_with (first
            | ((with_reducible show wpList _ _ _ (⟨some 17, _, _, _, _, _⟩ :: _) _ _); refine wpList_loadW (o := ⟨some 17, _, _, _, _, _⟩) 130 (.tmp 16) (by rfl) b (off + k * 15) (by rfl) aggHol hl8 hr (by rfl) ?_)
            | ((with_reducible show wpList _ _ _ (⟨none, Op.store _ _ (Operand.tmp 17), _, _, _, _⟩ :: _) _ _); refine wpList_storeA (o := ⟨none, _, _, _, _, _⟩) (by rfl) 130 (.tmp 7) (.tmp 17) (by rfl) wr.heap.size P8 (by rfl) (by rfl) aggHol n4 hl8 (by rfl) ho8 hb4 (Nat.le_refl _) ?_; intro w2 z2 b2 _; have R2 := Lib.hid (Hr4.out _ _ z2); have z3 := y3.kept b2; have z4 := y4.kept b2; have bb2 := Below.then hbr b2)
            | ((with_reducible show wpList _ _ _ (⟨some 19, _, _, _, _, _⟩ :: _) _ _); refine wpList_loadW (o := ⟨some 19, _, _, _, _, _⟩) 46 (.tmp 18) (by rfl) wr.heap.size 0 (by rfl) aggAddr hlZ R2.out.1 (by rfl) ?_)
            | ((with_reducible show wpList _ _ _ (⟨some 20, _, _, _, _, _⟩ :: _) _ _); refine wpList_loadA (o := ⟨some 20, _, _, _, _, _⟩) (by rfl) 46 (.tmp 3) (by rfl) w.heap.size (by rfl) aggAddr z3 hlY ?_)
            | ((with_reducible show wpList _ _ _ (⟨some 21, _, _, _, _, _⟩ :: _) _ _); refine wpList_eqlW (o := ⟨some 21, _, _, _, _, _⟩) 46 (.tmp 19) (.tmp 20) 46 (by rfl) (by rfl) (by rfl) G1.out Q1.out (by rfl) ?_)
            | ((with_reducible show wpList _ _ _ (⟨some 23, _, _, _, _, _⟩ :: _) _ _); refine wpList_loadW (o := ⟨some 23, _, _, _, _, _⟩) 49 (.tmp 22) (by rfl) wr.heap.size 8 (by rfl) aggAcc hlV R2.out.2 (by rfl) ?_)
            | ((with_reducible show wpList _ _ _ (⟨none, Op.store _ _ (Operand.tmp 23), _, _, _, _⟩ :: _) _ _); refine wpList_storeA (o := ⟨none, _, _, _, _, _⟩) (by rfl) 49 (.tmp 4) (.tmp 23) (by rfl) (w.heap.size + 1) V (by rfl) (by rfl) aggAcc z4 hlV rfl hoV bb2 (Nat.le_succ _) ?_; intro w5 hb5 bb5 g5))
          refine bodyPost_ret (results_blk_tmp rfl _ _ (w.heap.size + 1) aggAcc hb5 hlV rfl rfl) rfl ?_
          exact ⟨p.a, 0, by rw [HV.out]; rfl, Hg.out, (Hi.out _ (Hp.out ▸ List.getElem_mem hil)).below bb5, bb5⟩
        · have hne : (p.f == A) = false := by simp [he]
          rw [hne] at q1
          have Q1 := Lib.hid q1
          have G1 := Lib.hid g1
          have Hne : Hid (p.adr ≠ T) := Lib.hid (fun e => he (adr_inj p HA.out (by rw [e, HT.out])))
          clear q1 g1 hne he
          go_wp2_with (first
            | ((with_reducible show wpList _ _ _ (⟨some 17, _, _, _, _, _⟩ :: _) _ _); refine wpList_loadW (o := ⟨some 17, _, _, _, _, _⟩) 130 (.tmp 16) (by rfl) b (off + k * 15) (by rfl) aggHol hl8 hr (by rfl) ?_)
            | ((with_reducible show wpList _ _ _ (⟨none, Op.store _ _ (Operand.tmp 17), _, _, _, _⟩ :: _) _ _); refine wpList_storeA (o := ⟨none, _, _, _, _, _⟩) (by rfl) 130 (.tmp 7) (.tmp 17) (by rfl) wr.heap.size P8 (by rfl) (by rfl) aggHol n4 hl8 (by rfl) ho8 hb4 (Nat.le_refl _) ?_; intro w2 z2 b2 _; have R2 := Lib.hid (Hr4.out _ _ z2); have z3 := y3.kept b2; have z4 := y4.kept b2; have bb2 := Below.then hbr b2)
            | ((with_reducible show wpList _ _ _ (⟨some 19, _, _, _, _, _⟩ :: _) _ _); refine wpList_loadW (o := ⟨some 19, _, _, _, _, _⟩) 46 (.tmp 18) (by rfl) wr.heap.size 0 (by rfl) aggAddr hlZ R2.out.1 (by rfl) ?_)
            | ((with_reducible show wpList _ _ _ (⟨some 20, _, _, _, _, _⟩ :: _) _ _); refine wpList_loadA (o := ⟨some 20, _, _, _, _, _⟩) (by rfl) 46 (.tmp 3) (by rfl) w.heap.size (by rfl) aggAddr z3 hlY ?_)
            | ((with_reducible show wpList _ _ _ (⟨some 21, _, _, _, _, _⟩ :: _) _ _); refine wpList_eqlW (o := ⟨some 21, _, _, _, _, _⟩) 46 (.tmp 19) (.tmp 20) 46 (by rfl) (by rfl) (by rfl) G1.out Q1.out (by rfl) ?_))
          go_roundw
          case rel => exact ⟨k + 1, by omega, by go_num, ⟨bb2, z3, z4⟩, Lib.hid (fun j hj h => by
            by_cases hjk : j = k
            · subst hjk; rw [← Hp.out]; exact Hne.out
            · exact hno.out j hj (by omega))⟩
          case measure => simp [intOf]; omega
      · obtain rfl : k = n := by omega
        have hki : ¬ (k : Int) < (k : Int) := by omega
        go_wp2_with ((with_reducible show wpList _ _ _ (⟨none, Op.store _ _ (Operand.tmp 25), _, _, _, _⟩ :: _) _ _); refine wpList_storeA (o := ⟨none, _, _, _, _, _⟩) (by rfl) 49 (.tmp 4) (.tmp 25) (by rfl) (w.heap.size + 1) z7 (by rfl) (by rfl) aggAcc y4 rfl rfl hzo hbr (Nat.le_succ _) ?_; intro w5 hb5 bb5 _)
        refine bodyPost_ret (results_blk_tmp rfl _ _ (w.heap.size + 1) aggAcc hb5 rfl rfl rfl) rfl ?_
        exact ⟨zA, 0, rfl, .inr ⟨HxR.out.symm, rfl, .inr ⟨fun j hj => hno.out j hj (by rw [← Hn.out]; exact hj), rfl⟩⟩, zA_in _, bb5⟩
end Go.Proofs.Ytakhaanenlblmaa
/- (Ws20) The reference's OSet: the plain law; the state of its loop. -/
namespace Go.Proofs.Ytakhaanenlblmaa
open Go.RowKit
abbrev Key := List UInt8 × (Nat × Nat × List UInt8 × List (Nat × Nat))
def oStep (A : List UInt8) (q : Acc) (s : List Key × Bool) (h : Hol) : List Key × Bool :=
  if h.adr < numL A then (s.1 ++ [h.key], s.2) else if h.f = A then ((if s.2 then s.1 else s.1 ++ [(A, q.val)]), true) else ((if s.2 then s.1 else s.1 ++ [(A, q.val)]) ++ [h.key], true)
def oFold (A : List UInt8) (q : Acc) (l : List Hol) : List Key × Bool := l.foldl (oStep A q) ([], noneB q)
theorem oFold_take (A : List UInt8) (q : Acc) (l : List Hol) (k : Nat) (hk : k < l.length) : oFold A q (l.take (k + 1)) = oStep A q (oFold A q (l.take k)) l[k] := by
  unfold oFold
  rw [List.take_succ_eq_append_getElem hk, List.foldl_append]
  rfl
theorem oFold_low (A : List UInt8) (q : Acc) (l : List Hol) : (∀ h ∈ l, h.adr < numL A) → ∀ s, l.foldl (oStep A q) s = (s.1 ++ l.map Hol.key, s.2) := by
  induction l with
  | nil => intro _ s; simp
  | cons h l ih =>
    intro hl s
    rw [List.foldl_cons, ih (fun x hx => hl x (List.mem_cons_of_mem _ hx))]
    unfold oStep
    rw [if_pos (hl h List.mem_cons_self)]
    simp
theorem oFold_high (A : List UInt8) (q : Acc) (l : List Hol) : (∀ h ∈ l, numL A < h.adr) → ∀ s : List Key × Bool, s.2 = true → l.foldl (oStep A q) s = (s.1 ++ l.map Hol.key, true) := by
  induction l with
  | nil => intro _ s hs; simp [← hs]
  | cons h l ih =>
    intro hl s hs
    have h1 := hl h List.mem_cons_self
    have hne : h.f ≠ A := fun e => by unfold Hol.adr at h1; rw [e] at h1; omega
    have e1 : oStep A q s h = (s.1 ++ [h.key], true) := by
      unfold oStep
      rw [if_neg (by omega), if_neg hne, hs]; rfl
    rw [List.foldl_cons, e1, ih (fun x hx => hl x (List.mem_cons_of_mem _ hx)) _ rfl]
    simp
theorem oFold_law {A : List UInt8} (hA : A.length = 8) (q : Acc) {l : List Hol} (hr : Rising l) : (if (oFold A q l).2 then (oFold A q l).1 else (oFold A q l).1 ++ [(A, q.val)]) = setK l A q := by
  have hp : l.Pairwise (fun a b : Hol => a.adr < b.adr) := (List.pairwise_iff_getElem (R := fun a b : Hol => a.adr < b.adr)).2 (by unfold Rising at hr; exact hr)
  clear hr
  obtain ⟨L, R, rfl, hL, hR⟩ : ∃ L R, l = L ++ R ∧ (∀ h ∈ L, h.adr < numL A) ∧ (∀ h ∈ R, numL A ≤ h.adr) := by
    induction l with
    | nil => exact ⟨[], [], rfl, by simp, by simp⟩
    | cons h l ih =>
      rw [List.pairwise_cons] at hp
      by_cases h1 : h.adr < numL A
      · obtain ⟨L, R, rfl, h2, h3⟩ := ih hp.2
        exact ⟨h :: L, R, rfl, fun x hx => by rcases List.mem_cons.1 hx with rfl | hx; exact h1; exact h2 x hx, h3⟩
      · exact ⟨[], h :: l, rfl, by simp, fun x hx => by
          rcases List.mem_cons.1 hx with rfl | hx
          · omega
          · have := hp.1 x hx; omega⟩
  have hp2 := (List.pairwise_append.1 hp).2.1
  have lowE : L.filter (fun h => decide (h.adr < numL A)) = L := List.filter_eq_self.2 (fun h hh => decide_eq_true (hL h hh))
  have lowH : L.filter (fun h => decide (numL A < h.adr)) = [] := List.filter_eq_nil_iff.2 (fun h hh => by have := hL h hh; simp; omega)
  have lowB : butL A L = L := List.filter_eq_self.2 (fun h hh => by have h1 := hL h hh; have : h.f ≠ A := (fun e => by unfold Hol.adr at h1; rw [e] at h1; omega); simp [this])
  have hiL : R.filter (fun h => decide (h.adr < numL A)) = [] := List.filter_eq_nil_iff.2 (fun h hh => by have := hR h hh; simp; omega)
  have hfold : oFold A q (L ++ R) = R.foldl (oStep A q) (L.map Hol.key, noneB q) := by
    unfold oFold
    rw [List.foldl_append, oFold_low A q L hL]
    simp
  have hset : setK (L ++ R) A q = L.map Hol.key ++ (if noneB q then (butL A R).map Hol.key else (A, q.val) :: (R.filter (fun h => decide (numL A < h.adr))).map Hol.key) := by
    unfold setK butL at *
    rw [List.filter_append, List.filter_append, List.filter_append, lowE, lowH, hiL]
    rw [lowB]
    cases noneB q <;> simp
  rw [hfold, hset]
  cases R with
  | nil => cases noneB q <;> simp [butL]
  | cons h R =>
    rw [List.pairwise_cons] at hp2
    have h0 := hR h List.mem_cons_self
    have hhi : ∀ x ∈ R, numL A < x.adr := fun x hx => by have := hp2.1 x hx; omega
    have rB : butL A R = R := List.filter_eq_self.2 (fun x hx => by have h1 := hhi x hx; have : x.f ≠ A := (fun e => by unfold Hol.adr at h1; rw [e] at h1; omega); simp [this])
    have rH : R.filter (fun h => decide (numL A < h.adr)) = R := List.filter_eq_self.2 (fun x hx => decide_eq_true (hhi x hx))
    rw [List.foldl_cons]
    by_cases hf : h.f = A
    · have e1 : oStep A q (L.map Hol.key, noneB q) h = ((if noneB q then L.map Hol.key else L.map Hol.key ++ [(A, q.val)]), true) := by
        unfold oStep
        rw [if_neg (by omega), if_pos hf]
      have hz : ¬ numL A < h.adr := by unfold Hol.adr; rw [hf]; omega
      have b1 : butL A (h :: R) = R := by
        unfold butL at rB ⊢
        rw [List.filter_cons, rB]; simp [hf]
      have b2 : (h :: R).filter (fun h => decide (numL A < h.adr)) = R := by rw [List.filter_cons, rH]; simp [hz]
      rw [e1, oFold_high A q R hhi _ rfl, b1, b2]
      cases noneB q <;> simp
    · have hz : numL A < h.adr := by
        have : h.adr ≠ numL A := fun e => hf (adr_inj h hA e)
        omega
      have e1 : oStep A q (L.map Hol.key, noneB q) h = ((if noneB q then L.map Hol.key else L.map Hol.key ++ [(A, q.val)]) ++ [h.key], true) := by
        unfold oStep
        rw [if_neg (by omega), if_neg hf]
      have b1 : butL A (h :: R) = h :: R := by
        unfold butL at rB ⊢
        rw [List.filter_cons, rB]; simp [hf]
      have b2 : (h :: R).filter (fun h => decide (numL A < h.adr)) = h :: R := by rw [List.filter_cons, rH]; simp [hz]
      rw [e1, oFold_high A q R hhi _ rfl, b1, b2]
      cases noneB q <;> simp
structure StO (w : World) (Y X : List Value) (v : Value) (O : List Hol) (u : World) : Prop where
  b : Below w.heap.size w u
  z4 : Blk 46 u w.heap.size Y
  z5 : Blk 49 u (w.heap.size + 1) X
  o : OwnOf hols 15 130 u w.heap.size v O
  q : ∀ h ∈ O, h.a.In w
theorem StO.kept {w u u' : World} {Y X : List Value} {v : Value} {O : List Hol} (h : StO w Y X v O u) (hb : Below u.heap.size u u') : StO w Y X v O u' :=
  ⟨Below.then h.b hb, h.z4.kept hb, h.z5.kept hb, h.o.kept hb, h.q⟩
theorem StO.grew {w u u' : World} {Y X : List Value} {v v' : Value} {O : List Hol} (h : StO w Y X v O u) {p : Hol} (ha : p.a.In w) (ho : OwnOf hols 15 130 u' w.heap.size v' (O ++ [p])) (hg : u.grownBy u' v.ownBlock) : StO w Y X v' (O ++ [p]) u' :=
  ⟨h.b.grown hg h.b.size (fun k hk => h.o.lt k hk), h.z4.grown hg (h.o.notT h.z4 (by decide)), h.z5.grown hg (h.o.notT h.z5 (by decide)), ho, fun y hy => by
    rcases List.mem_append.1 hy with hy | hy
    · exact h.q y hy
    · rw [List.mem_singleton] at hy; subst hy; exact ha⟩
theorem wpList_one {w : World} {ops : Array Oper} {rest : List Oper} {o : Oper} {a : Act} {Q : Exit → Act → World → Prop} (hgd : o.guard = none) (x : Operand) (ho : o.op = .buildSlice 44 1 #[(0, x)]) (p : Hol) (C : List Value) (hC : C = hols p) (hx : a.eval x = .agg C.toArray)
    (h : ∀ w', RowOf hols 15 w' (.slice (some ⟨w.heap.size, 0, none⟩) 1 1) [p] → Below w.heap.size w w' → wpList Try.prog ops Q rest (a.put o.dst (.slice (some ⟨w.heap.size, 0, none⟩) 1 1)) w') : wpList Try.prog ops Q (o :: rest) a w := by
  subst hC
  obtain ⟨i, hi, hz, hsi, _⟩ := elHol.info
  have hl := hols_len p
  have hf := Great.fill_whole (s := 15) (by omega) [Value.agg (hols p).toArray] ((Array.range (1 * 15)).map ((Value.agg z15.toArray).cells[· % (Value.agg z15.toArray).cells.size]!)) (fun u hu => by rw [List.mem_singleton] at hu; rw [hu]; simpa [Value.cells] using hl) (by simp)
  have e1 : ([Value.agg (hols p).toArray].flatMap fun v => v.cells.toList).toArray = (hols p).toArray := by simp [Value.cells]
  rw [e1] at hf
  exact wpList_buildSlice hgd 44 130 1 #[(0, x)] ho (hols p).toArray i _ elHol.ht hi hz (by rw [hsi]; omega) (by rw [hsi]; omega) (by rw [hsi, ← hf]; simp [hx]) (h _ (hol_row (Blk.new w _ _)) ((Below.refl _ _).alloc (Nat.le_refl _) _))
end Go.Proofs.Ytakhaanenlblmaa
/- (Ws21) The reference's OSet: where it refuses. -/
namespace Go.Proofs.Ytakhaanenlblmaa
open Go.RowKit
set_option maxHeartbeats 4000000 in
set_option maxRecDepth 100000 in
theorem oset_bad (a : Option Addr) (n c : Nat) (l : List Hol) (hn : l.length = n) (hk : ∀ h ∈ l, h.a.Ok) (hz : ∀ h ∈ l, h.a.Sz) (A : List UInt8) (hA : A.length = 8) (q : Acc) (hqk : q.Ok) (hqz : q.Sz) (hb : (n + 1) * 96 ≤ 140737488355328) (w : World) (h : RowOf hols 15 w (.slice a n c) l) (hi : ∀ h ∈ l, h.a.In w) (hqi : q.In w) (hbad : rightB l = false ∨ slotsB q.s = false ∨ 1024 < q.c.length) :
    Calls Try.prog 23 #[.slice a n c, .agg (by8 A).toArray, .agg (accs q).toArray] w (SetPost l A q w) := by
  obtain ⟨w1, hw1⟩ : ∃ w1, w1 = (w.alloc (.cells (by8 A).toArray 46)).alloc (.cells (accs q).toArray 49) := ⟨_, rfl⟩
  have z4 : Blk 46 w1 w.heap.size (by8 A) := by rw [hw1]; exact (Blk.new w _ _).alloc _
  have z5 : Blk 49 w1 (w.heap.size + 1) (accs q) := by
    rw [hw1]
    have := Blk.new (w.alloc (.cells (by8 A).toArray 46)) 49 (accs q)
    simpa using this
  have hbel : Below w.heap.size w w1 := by rw [hw1]; exact ((Below.refl _ _).alloc (Nat.le_refl _) _).alloc (by simp) _
  have cr : ∀ u, Below w.heap.size w u → Calls Try.prog 25 #[.slice a n c] u fun e w' => e = .returned (.bool (rightB l)) ∧ Below u.heap.size u w' := fun u hu => oright_any a n c l hn hk u (h.below hu) (fun q hq => (hi q hq).below hu)
  have ce := oerror_any q hqk w1 (hqi.below hbel)
  obtain ⟨ca, cc, sa, sc, hcv, hsv⟩ := acc_parts hqi
  have hR := rising_of (l := l)
  obtain ⟨xR, hxR⟩ : ∃ x, x = rightB l := ⟨_, rfl⟩
  obtain ⟨E, hE⟩ : ∃ x, x = errA q := ⟨_, rfl⟩
  rw [← hxR] at cr
  rw [← hE] at ce
  obtain ⟨Y, hY⟩ : ∃ Y, Y = by8 A := ⟨_, rfl⟩
  obtain ⟨X, hX⟩ : ∃ X, X = accs q := ⟨_, rfl⟩
  have hlY : Y.length = 8 := by rw [hY, by8_len, hA]
  have hlX : X.length = 7 := by rw [hX]; rfl
  have hXo : ∀ u ∈ X, u.oneCell' = true := by rw [hX]; exact accs_one hqi
  rw [← hX, ← hY] at hw1 ⊢
  rw [← hX] at z5 ce
  rw [← hY] at z4
  have Hw1 := Lib.hid hw1
  have Cr := Lib.hid cr
  have Ce := Lib.hid ce
  have HxR := Lib.hid hxR
  have HE := Lib.hid hE
  have Bad := Lib.hid hbad
  clear hw1 cr ce hbad hxR hE hX hY hR hcv hsv hn hk hz hqk hqz h hi hqi hA
  cases xR with
  | false =>
    go_enter Try.func23, Try.ntmps23
    go_wp2_with (first | ((with_reducible show wpList _ _ _ (⟨some 13, _, _, _, _, _⟩ :: _) _ _); rw [show ((w.alloc (.cells Y.toArray 46)).alloc (.cells X.toArray 49)) = w1 from Hw1.out.symm]; refine wpList_loadA (o := ⟨some 13, _, _, _, _, _⟩) (by rfl) 49 (.tmp 5) (by rfl) (w.heap.size + 1) (by rfl) aggAcc z5 hlX ?_) | (go_at_call 64; refine Ce.out.mono ?_; rintro e w2 ⟨rfl, b2⟩; have bb2 := Below.then hbel b2; have z42 := z4.kept b2; have z52 := z5.kept b2) | (go_at_call 25; refine (Cr.out _ bb2).mono ?_; rintro e w3 ⟨rfl, b3⟩; have bb3 := Below.then bb2 b3; have z43 := z42.kept b3; have z53 := z52.kept b3))
    go_ret2
    exact ⟨_, [], 1, rfl, RowOf.nil hols 15 _, by simp, .inl ⟨.inl HxR.out.symm, rfl, rfl⟩, bb3⟩
  | true =>
    by_cases h2 : slotsB q.s = false
    · obtain rfl : E = 1 := by rw [HE.out]; unfold errA; rw [h2]; rfl
      have H2 := Lib.hid h2
      clear h2
      go_enter Try.func23, Try.ntmps23
      go_wp2_with (first | ((with_reducible show wpList _ _ _ (⟨some 13, _, _, _, _, _⟩ :: _) _ _); rw [show ((w.alloc (.cells Y.toArray 46)).alloc (.cells X.toArray 49)) = w1 from Hw1.out.symm]; refine wpList_loadA (o := ⟨some 13, _, _, _, _, _⟩) (by rfl) 49 (.tmp 5) (by rfl) (w.heap.size + 1) (by rfl) aggAcc z5 hlX ?_) | (go_at_call 64; refine Ce.out.mono ?_; rintro e w2 ⟨rfl, b2⟩; have bb2 := Below.then hbel b2; have z42 := z4.kept b2; have z52 := z5.kept b2) | (go_at_call 25; refine (Cr.out _ bb2).mono ?_; rintro e w3 ⟨rfl, b3⟩; have bb3 := Below.then bb2 b3; have z43 := z42.kept b3; have z53 := z52.kept b3))
      go_ret2
      exact ⟨_, [], 1, rfl, RowOf.nil hols 15 _, by simp, .inl ⟨.inr H2.out, rfl, rfl⟩, bb3⟩
    · have h2' : slotsB q.s = true := by simpa using h2
      have hlong : 1024 < q.c.length := by
        rcases Bad.out with h | h | h
        · rw [← HxR.out] at h; cases h
        · rw [h2'] at h; cases h
        · exact h
      obtain rfl : E = 2 := by rw [HE.out]; unfold errA; rw [h2', if_pos rfl, if_pos hlong]
      have H2 := Lib.hid h2'
      have H3 := Lib.hid hlong
      clear h2 h2' hlong
      go_enter Try.func23, Try.ntmps23
      go_wp2_with (first | ((with_reducible show wpList _ _ _ (⟨some 13, _, _, _, _, _⟩ :: _) _ _); rw [show ((w.alloc (.cells Y.toArray 46)).alloc (.cells X.toArray 49)) = w1 from Hw1.out.symm]; refine wpList_loadA (o := ⟨some 13, _, _, _, _, _⟩) (by rfl) 49 (.tmp 5) (by rfl) (w.heap.size + 1) (by rfl) aggAcc z5 hlX ?_) | (go_at_call 64; refine Ce.out.mono ?_; rintro e w2 ⟨rfl, b2⟩; have bb2 := Below.then hbel b2; have z42 := z4.kept b2; have z52 := z5.kept b2) | (go_at_call 25; refine (Cr.out _ bb2).mono ?_; rintro e w3 ⟨rfl, b3⟩; have bb3 := Below.then bb2 b3; have z43 := z42.kept b3; have z53 := z52.kept b3))
      go_ret2
      exact ⟨_, [], 2, rfl, RowOf.nil hols 15 _, by simp, .inr (.inl ⟨HxR.out.symm, H2.out, H3.out, rfl, rfl⟩), bb3⟩
end Go.Proofs.Ytakhaanenlblmaa
