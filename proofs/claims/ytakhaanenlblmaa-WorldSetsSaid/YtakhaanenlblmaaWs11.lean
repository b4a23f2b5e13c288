/- slices.Insert of one holder. -/
import Derived.Test.YtakhaanenlblmaaWsB
import Derived.Test.YtakhaanenlblmaaMem5
set_option linter.unusedSimpArgs false
set_option linter.unusedVariables false
namespace Go.Proofs.Ytakhaanenlblmaa
open Go.RowKit
theorem elHol : El0 Try.prog 44 130 (.agg z15.toArray) 15 96 hols where
  ht := Try.underlying44
  hi := by kernel_rfl
  hzs := rfl
  hsz := by omega
  hf := hols_len
/-- 's[x:]' in a typed region, by its run -/
theorem const_slice {P : Program} {o : Oper} {a : Act} {w : World} {v i u : Value} (ty : TypeId) {e : TypeId} (hu : P.underlying ty = some (.slice e)) (x y : Operand) (ho : o.op = .slice ty x (some y) none none) (hx : a.eval x = v) (hy : a.eval y = i) (hq : ∀ w1, (Instr.slice ty v (some i) none none).run P w1 = .ok u w1) : constAt P o a w u := by
  unfold constAt execOp
  simp only [ho, Instr.sliceAt, Option.map_some, Option.map_none, hx, hy, Sem.run_bind, run_underlying hu, hq, Result.andThen_ok, Sem.run_pure]
  exact ⟨rfl, rfl⟩
theorem setRow_grown (u : World) (g : Nat) (cs : Array Value) : u.grownBy (u.setRow g cs) (some g) := ⟨rfl, rfl, rfl, by simp, fun k _ hk => setRow_other u g k _ (fun e => hk (by rw [e]))⟩
theorem alloc_grown (u : World) (cs : Array Value) (e : TypeId) : u.grownBy (u.drew.alloc (.cells cs e)) none := ⟨rfl, rfl, rfl, by simp, fun k hk _ => heap_alloc_old u.drew _ hk⟩
theorem arr3 (P : List Value) (a b : Array Value) : P.toArray ++ a.toList.toArray ++ b = (P ++ (a.toList ++ b.toList)).toArray := by simp
theorem Below.grownBy {w u : World} (h : Below w.heap.size w u) (r : Option Nat) : w.grownBy u r := ⟨h.os, h.tape, h.output, h.size, fun k hk _ => h.block k hk⟩
def InsPost (B : Nat) (v : Value) (l : List Hol) (i : Nat) (x : Hol) (w : World) (e : Ending) (w' : World) : Prop := ∃ v', e = .returned v' ∧ OwnOf hols 15 130 w' B v' (l.take i ++ x :: l.drop i) ∧ w.grownBy w' v.ownBlock
theorem ins_flat (l : List Hol) (i : Nat) (x : Hol) : (l.take i ++ x :: l.drop i).flatMap hols = (l.take i).flatMap hols ++ (hols x ++ (l.drop i).flatMap hols) := by rw [List.flatMap_append, List.flatMap_cons]
set_option maxHeartbeats 4000000 in
set_option maxRecDepth 100000 in
theorem insert_any (B : Nat) (v : Value) (n : Nat) (l : List Hol) (hn : l.length = n) (i : Nat) (hin : i ≤ n) (x : Hol) (vb : Nat) (hb : (n + 1) * 96 ≤ 140737488355328) (w : World) (ho : OwnOf hols 15 130 w B v l) (hone : ∀ u ∈ l.flatMap hols, u.oneCell' = true) (hx : Blk 130 w vb (hols x)) (hxo : ∀ u ∈ hols x, u.oneCell' = true) (hvb : v.ownBlock ≠ some vb) (hB : B ≤ w.heap.size) :
    Calls Try.prog 63 #[v, .int .i64 (i : Int), .slice (some ⟨vb, 0, none⟩) 1 1] w (InsPost B v l i x w) := by
  have rx : RowOf hols 15 w (.slice (some ⟨vb, 0, none⟩) 1 1) [x] := by
    have := RowOf.one hols 15 w x (hols x).toArray 130 rfl (hols_len x)
    refine ⟨by simp [hols_len], _, _, rfl, by simp, by unfold maxLen; omega, .inr ⟨vb, 0, none, rfl, .inl rfl, fun j u hu => ?_⟩⟩
    rw [Nat.zero_add, hx.cell]
    simpa using hu
  have hlx := hols_len x
  by_cases hie : i = n
  · subst hie
    obtain ⟨a, c, rfl, _⟩ := ho.form' i hn
    obtain ⟨v12, h12⟩ := slAny (.int .i64 0) a i c i (Nat.le_refl _) .i64 w
    have hz : ((i : Int) == (i : Int)) = true := beq_self_eq_true _
    have ht : l.take i ++ x :: l.drop i = l ++ [x] := by rw [← hn, List.take_length, List.drop_length]
    obtain ⟨LL, hLL⟩ : ∃ L, L = l.take i ++ x :: l.drop i := ⟨_, rfl⟩
    have HLL := Lib.hid (hLL.trans ht)
    show Calls Try.prog 63 _ _ (fun e w' => ∃ v', e = .returned v' ∧ OwnOf hols 15 130 w' B v' (l.take i ++ x :: l.drop i) ∧ w.grownBy w' (Value.slice a i c).ownBlock)
    rw [← hLL]
    have Hn := Lib.hid hn
    clear hn ht hLL hx
    go_enter Try.func63, Try.ntmps63
    go_wp2_with ((with_reducible show wpList _ _ _ (⟨some 25, _, _, _, _, _⟩ :: _) _ _); refine wpList_appB (o := ⟨some 25, _, _, _, _, _⟩) (by rfl) (.tmp 23) (.tmp 24) 44 (by rfl) elHol (by simpa using hxo) (by rfl) ho (by rfl) rx hB (by simp only [Hn.out, List.length_cons, List.length_nil]; omega) (by simp only [Hn.out, List.length_cons, List.length_nil]; unfold maxLen; omega) ?_; intro v5 w5 o5 g5 _)
    go_ret
    exact ⟨_, rfl, by rw [HLL.out]; exact o5, g5⟩
  · have hi2 : i < n := by omega
    obtain ⟨a, c, rfl, _⟩ := ho.form' n hn
    obtain ⟨g, rfl, hgB, _⟩ : ∃ g, a = some ⟨g, 0, none⟩ ∧ B ≤ g ∧ True := by
      rcases ho.2 with ⟨h1, h2⟩ | ⟨g, cap, cur, h1, h2, _⟩
      · omega
      · simp only [Value.slice.injEq] at h1
        exact ⟨g, h1.1, h2, trivial⟩
    obtain ⟨R, hR, hnl, hnc, hcm, _, hRl⟩ := ho.toCells
    clear hnl
    have hgv : g ≠ vb := fun e => hvb (by rw [← e]; rfl)
    have hfl : (l.flatMap hols).length = n * 15 := by rw [flat_hols, hn]
    have hsplit : l.flatMap hols = (l.take i).flatMap hols ++ (l.drop i).flatMap hols := by rw [← List.flatMap_append, List.take_append_drop]
    obtain ⟨P, hP⟩ : ∃ P, P = (l.take i).flatMap hols := ⟨_, rfl⟩
    obtain ⟨D, hD⟩ : ∃ D, D = (l.drop i).flatMap hols := ⟨_, rfl⟩
    have hPl : P.length = i * 15 := by rw [hP, flat_hols, List.length_take, hn, Nat.min_eq_left hin]
    have hDl : D.length = (n - i) * 15 := by rw [hD, flat_hols, List.length_drop, hn]
    rw [← hP, ← hD] at hsplit
    have hll : (l.take i ++ x :: l.drop i).length = n + 1 := by rw [List.length_append, List.length_take, List.length_cons, List.length_drop, hn]; omega
    have hlf : (l.take i ++ x :: l.drop i).flatMap hols = P ++ (hols x ++ D) := by rw [ins_flat, hP, hD]
    obtain ⟨X, hX⟩ : ∃ X, X = hols x := ⟨_, rfl⟩
    obtain ⟨LL, hLL⟩ : ∃ L, L = l.take i ++ x :: l.drop i := ⟨_, rfl⟩
    show Calls Try.prog 63 _ _ (fun e w' => ∃ v', e = .returned v' ∧ OwnOf hols 15 130 w' B v' (l.take i ++ x :: l.drop i) ∧ w.grownBy w' (some g))
    rw [← hLL] at hll hlf ⊢
    rw [← hX] at hlf hlx hx hxo
    have hPD : ∀ u ∈ D, u.oneCell' = true := fun u hu => hone u (by rw [hsplit]; exact List.mem_append_right _ hu)
    have hPo : ∀ u ∈ P, u.oneCell' = true := fun u hu => hone u (by rw [hsplit]; exact List.mem_append_left _ hu)
    rw [hsplit] at hR hRl
    have srcP : ∀ u, Blk 130 u g (P ++ D ++ R) → ∀ j y, P[j]? = some y → u.cell? ((⟨g, 0, none⟩ : Addr).add j) = some y := fun u hu j y hy => by
      rw [Addr.add_mid, Nat.zero_add, hu.cell, List.append_assoc, List.getElem?_append_left (List.getElem?_eq_some_iff.1 hy).1]; exact hy
    have srcD : ∀ u, Blk 130 u g (P ++ D ++ R) → ∀ j y, D[j]? = some y → u.cell? ((⟨g, i * 15, none⟩ : Addr).add j) = some y := fun u hu j y hy => by
      have hjl := (List.getElem?_eq_some_iff.1 hy).1
      rw [Addr.add_mid, hu.cell, List.append_assoc, List.getElem?_append_right (by omega), hPl, Nat.add_sub_cancel_left, List.getElem?_append_left hjl]; exact hy
    have srcX : ∀ u, Blk 130 u vb X → ∀ j y, X[j]? = some y → u.cell? ((⟨vb, 0, none⟩ : Addr).add j) = some y := fun u hu j y hy => by
      rw [Addr.add_mid, Nat.zero_add, hu.cell]; exact hy
    obtain ⟨v12, h12⟩ := slAny (.int .i64 0) (some ⟨g, 0, none⟩) n c i hin .i64 w
    have hz : ¬ (i : Int) = (n : Int) := by omega
    have hwn : IntKind.i64.wrap ((n : Int) + 1) = ((n + 1 : Nat) : Int) := by rw [IntWalk.i64_in _ (by omega)]; omega
    have hwi : IntKind.i64.wrap ((i : Int) + 1) = ((i + 1 : Nat) : Int) := by rw [IntWalk.i64_in _ (by omega)]; omega
    by_cases hroom : n + 1 ≤ c
    · have hrz : ¬ (c : Int) < ((n + 1 : Nat) : Int) := by omega
      obtain ⟨N1, hN1⟩ : ∃ m, m = n + 1 := ⟨_, rfl⟩
      obtain ⟨I1, hI1⟩ : ∃ m, m = i + 1 := ⟨_, rfl⟩
      obtain ⟨DL, hDL⟩ : ∃ m, m = n - i := ⟨_, rfl⟩
      have e13 : ∀ u, (Instr.slice 44 (.slice (some ⟨g, 0, none⟩) n c) none (some (.int .i64 (N1 : Int))) none).run Try.prog u = .ok (.slice (some ⟨g, 0, none⟩) N1 c) u := fun u => slHi g n c N1 (by omega) (by omega) .i64 u
      have e14 : ∀ u, (Instr.slice 44 (.slice (some ⟨g, 0, none⟩) N1 c) (some (.int .i64 (I1 : Int))) none none).run Try.prog u = .ok (.slice (some ⟨g, I1 * 15, none⟩) DL (c - I1)) u := fun u => by have := slLo g N1 c I1 (by omega) (by omega) .i64 u; rwa [show N1 - I1 = DL from by omega] at this
      have e15 : ∀ u, (Instr.slice 44 (.slice (some ⟨g, 0, none⟩) N1 c) (some (.int .i64 (i : Int))) none none).run Try.prog u = .ok (.slice (some ⟨g, i * 15, none⟩) (N1 - i) (c - i)) u := fun u => slLo g N1 c i (by omega) (by omega) .i64 u
      have hov : (callFunc 118 #[.slice (some ⟨vb, 0, none⟩) 1 1, .slice (some ⟨g, I1 * 15, none⟩) DL (c - I1)]).run Try.prog w = .ok (.value (.bool false)) w := by
        have hs1 : w.shape? vb = some (130, 15) := by
          have h1 : w.heap[vb]? = some (.cells X.toArray 130 (0, 0)) := hx
          unfold World.shape?; rw [h1]; simp [hlx]
        have hs2 : w.shape? g = some (130, (P ++ D ++ R).length) := by
          have h1 : w.heap[g]? = some (.cells (P ++ D ++ R).toArray 130 (0, 0)) := hR
          unfold World.shape?; rw [h1]; simp
        rw [run_callFunc_extern Try.func118 (by kernel_rfl) (by kernel_rfl) (by kernel_rfl) (e := Extern.SlicesOverlaps.overlaps #[44, 44] #[4]) (by kernel_rfl),
          Lib.run_overlaps_apart w 44 4 130 Try.underlying44 15 (fun w => by kernel_rfl) ⟨vb, 0, none⟩ ⟨g, I1 * 15, none⟩ 1 1 DL (c - I1) (fun e => hgv e.symm) _ _ _ _ hs1 hs2 (by rw [hRl]; omega) (hx.free 0) (hx.free 15)]
        rfl
      have cp1 : ∀ u, Blk 130 u g (P ++ D ++ R) → ∀ ty, (Builtin.copy_ #[44, 44] ty #[.slice (some ⟨g, I1 * 15, none⟩) DL (c - I1), .slice (some ⟨g, i * 15, none⟩) (N1 - i) (c - i)]).run Try.prog u = .ok (goInt (Nat.min (N1 - i) DL)) (u.setRow g ((P ++ D ++ R).take (I1 * 15) ++ D ++ (P ++ D ++ R).drop (I1 * 15 + D.length)).toArray) := fun u hu ty => by
        have hm : Nat.min (N1 - i) DL = DL := Nat.min_eq_right (by omega)
        have := run_copy_rowK (P := Try.prog) u 44 44 ty 130 15 g (I1 * 15) DL (c - I1) ⟨g, i * 15, none⟩ (N1 - i) (c - i) (P ++ D ++ R).toArray 130 D Try.underlying44 szH hu (by rw [hDl, hm, hDL]) (srcD u hu) (by rw [List.size_toArray, hRl, hDl, hI1]; omega) hPD
        simpa using this
      obtain ⟨C1, hC1⟩ : ∃ C, C = (P ++ D ++ R).take (I1 * 15) ++ D ++ (P ++ D ++ R).drop (I1 * 15 + D.length) := ⟨_, rfl⟩
      have hC1l : C1.length = c * 15 := by rw [hC1, List.length_append, List.length_append, List.length_take, List.length_drop, hRl, hDl, hI1]; omega
      have hC1c : C1 = P ++ (C1.drop (i * 15)) := by
        conv => lhs; rw [← List.take_append_drop (i * 15) C1]
        congr 1
        rw [hC1, List.take_append_of_le_length (by rw [List.length_append, List.length_take, hRl, hDl, hI1]; omega), List.take_append_of_le_length (by rw [List.length_take, hRl, hI1]; omega), List.take_take, Nat.min_eq_left (by omega), List.append_assoc, ← hPl, List.take_left]
      have hC1d : C1.drop (i * 15 + 15) = D ++ (P ++ D ++ R).drop (I1 * 15 + D.length) := by
        rw [hC1, List.append_assoc, show i * 15 + 15 = ((P ++ D ++ R).take (I1 * 15)).length from by rw [List.length_take, hRl, hI1]; omega, List.drop_left]
      have cp2 : ∀ u, Blk 130 u g C1 → Blk 130 u vb X → ∀ ty, (Builtin.copy_ #[44, 44] ty #[.slice (some ⟨g, i * 15, none⟩) (N1 - i) (c - i), .slice (some ⟨vb, 0, none⟩) 1 1]).run Try.prog u = .ok (goInt (Nat.min 1 (N1 - i))) (u.setRow g (C1.take (i * 15) ++ X ++ C1.drop (i * 15 + X.length)).toArray) := fun u hu hv ty => by
        have hm : Nat.min 1 (N1 - i) = 1 := Nat.min_eq_left (by omega)
        have := run_copy_rowK (P := Try.prog) u 44 44 ty 130 15 g (i * 15) (N1 - i) (c - i) ⟨vb, 0, none⟩ 1 1 C1.toArray 130 X Try.underlying44 szH hu (by rw [hlx, hm]) (srcX u hv) (by rw [List.size_toArray, hC1l, hlx]; omega) hxo
        simpa using this
      obtain ⟨C2, hC2⟩ : ∃ C, C = C1.take (i * 15) ++ X ++ C1.drop (i * 15 + X.length) := ⟨_, rfl⟩
      have hC2l : C2.length = c * 15 := by rw [hC2, List.length_append, List.length_append, List.length_take, List.length_drop, hC1l, hlx]; omega
      have hC2t : C2.take (N1 * 15) = LL.flatMap hols := by
        rw [hC2, hlx, hC1d, hC1c, show (P ++ List.drop (i * 15) C1).take (i * 15) = P from by rw [← hPl, List.take_left], hlf, List.append_assoc, ← List.append_assoc X, ← List.append_assoc P]
        rw [List.take_append_of_le_length (by rw [List.length_append, List.length_append, hPl, hlx, hDl, hN1]; omega), List.take_of_length_le (by rw [List.length_append, List.length_append, hPl, hlx, hDl, hN1]; omega)]
      have cp1' := fun u hu ty => hC1 ▸ cp1 u hu ty
      have cp2' := fun u hu hv ty => hC2 ▸ cp2 u hu hv ty
      have Cp1 := Lib.hid cp1'
      have Cp2 := Lib.hid cp2'
      have Fin := Lib.hid (show ∀ u, Blk 130 u g C2 → OwnOf hols 15 130 u B (.slice (some ⟨g, 0, none⟩) N1 c) LL from fun u hu => OwnOf.ofCells hu hC2l (by omega) hgB hC2t (by rw [hll, hN1]) hcm)
      rw [← hN1] at hwn hrz
      rw [← hI1] at hwi
      clear cp1 cp2 cp1' cp2' hC1 hC2 hC1l hC1c hC1d hC2l hC2t hN1 hI1 hDL hlf hll hLL hX hP hD hsplit srcP srcD srcX hRl hPl hDl hfl ho hone rx hn
      go_enter Try.func63, Try.ntmps63
      go_upto_region 15 with fail
      refine wp_region_typed w 8 (by kernel_rfl) (by kernel_rfl) (Below.refl _ _) ?_; simp only [List.take_succ_cons, List.take_zero, List.take_nil]
      iterate 4 (refine wpX_step (by rfl) (fun K hK => ?_); go_simp; first | (refine hK _ ?_; clear hK K) | (apply Exists.intro; refine ⟨fun _ => ?_, hK _ ?_⟩; fail; clear hK K))
      (refine wpX_step (by rfl) (fun K hK => ?_); rw [if_pos (by rfl)]; refine ⟨_, fun u => const_slice _ Try.underlying44 (.tmp 69) (.tmp 72) (by rfl) (by rfl) (by rfl) (fun w1 => e14 w1), hK _ ?_⟩; clear hK K; simp only [Act.put, List.setIfInBounds_toArray, List.set_cons_zero, List.set_cons_succ])
      iterate 2 (refine wpX_step (by rfl) (fun K hK => ?_); go_simp; first | (refine hK _ ?_; clear hK K) | (apply Exists.intro; refine ⟨fun _ => ?_, hK _ ?_⟩; fail; clear hK K))
      (refine wpX_step (by rfl) (fun K hK => ?_); rw [if_pos (by rfl)]; refine ⟨_, fun u => const_slice _ Try.underlying44 (.tmp 74) (.tmp 75) (by rfl) (by rfl) (by rfl) (fun w1 => e15 w1), hK _ ?_⟩; clear hK K; simp only [Act.put, List.setIfInBounds_toArray, List.set_cons_zero, List.set_cons_succ])
      refine wpX_nil ?_
      intro u1 b1
      change wpList _ _ _ [_] _ _
      try simp only [Act.put, List.setIfInBounds_toArray, List.set_cons_zero, List.set_cons_succ]
      have R1 := Blk.below hR b1 hR.lt
      have X1 := Blk.below hx b1 hx.lt
      refine wpList_copyK (o := ⟨some 77, _, _, _, _, _⟩) (by rfl) (.tmp 73) (.tmp 76) 44 44 (by rfl) _ _ (by rfl) (by rfl) (Cp1.out u1 R1 _) ?_
      have R2 : Blk 130 (u1.setRow g C1.toArray) g C1 := setRow_heap u1 g _ _ _ _ R1
      have X2 : Blk 130 (u1.setRow g C1.toArray) vb X := (setRow_other u1 g vb _ (fun e => hgv e.symm)).trans X1
      have B2 : w.grownBy (u1.setRow g C1.toArray) (some g) := (Below.grownBy b1 (some g)).andThen (setRow_grown u1 g _) (fun j hj => .inr hj)
      generalize u1.setRow g C1.toArray = u2 at R2 X2 B2 ⊢
      clear R1 X1 b1
      go_wp2_with (refine wpList_copyK (o := ⟨some 82, _, _, _, _, _⟩) (by rfl) (.tmp 80) (.tmp 81) 44 44 (by rfl) _ _ (by rfl) (by rfl) (Cp2.out _ R2 X2 _) ?_)
      have R3 : Blk 130 (u2.setRow g C2.toArray) g C2 := setRow_heap u2 g _ _ _ _ R2
      have B3 : w.grownBy (u2.setRow g C2.toArray) (some g) := B2.andThen (setRow_grown u2 g _) (fun j hj => .inr hj)
      generalize u2.setRow g C2.toArray = u3 at R3 B3 ⊢
      go_wp2_with fail
      go_ret
      exact ⟨_, rfl, Fin.out _ R3, B3⟩
    · have hrz : (c : Int) < ((n + 1 : Nat) : Int) := by omega
      obtain ⟨N1, hN1⟩ : ∃ m, m = n + 1 := ⟨_, rfl⟩
      obtain ⟨I1, hI1⟩ : ∃ m, m = i + 1 := ⟨_, rfl⟩
      obtain ⟨M, hM⟩ : ∃ m, m = n + 1 - i := ⟨_, rfl⟩
      obtain ⟨DL, hDL⟩ : ∃ m, m = n - i := ⟨_, rfl⟩
      obtain ⟨b', hb'⟩ : ∃ b, b = w.heap.size := ⟨_, rfl⟩
      obtain ⟨G, hG⟩ : ∃ G, G = grownCap w (i + M) c 130 := ⟨_, rfl⟩
      have hGn : N1 ≤ G := by have := grownCap_ge w (i + M) c 130; rw [← hG] at this; omega
      have hGm : G ≤ maxLen := by rw [hG]; exact grownCap_le_maxLen w _ c _ (by unfold maxLen; omega)
      have ap : ∀ ty, ∃ Z, Z.length = (G - i) * 15 ∧ (Builtin.append_ #[44, 3] ty #[.slice (some ⟨g, 0, none⟩) i c, .int .i64 (M : Int)]).run Try.prog w = .ok (.slice (some ⟨b', 0, none⟩) N1 G) (w.drew.alloc (.cells (P ++ Z).toArray 130)) := fun ty => by
        obtain ⟨ii, hi, hz0, hsi, hby⟩ := elHol.info
        have := run_append_growZ (P := Try.prog) w 44 3 ty 130 ii _ elHol.ht Try.underlying3 hi hz0 ⟨g, 0, none⟩ i c P (by rw [hPl, hsi]) (srcP w hR) M (by rw [hsi]; omega) (by omega) (by omega) (by rw [hby]; omega) (growslice_fits (by omega) (by rw [hby]; omega))
        rw [← hG, show i + M = N1 from by omega, ← hb'] at this
        rw [arr3] at this
        refine ⟨(Builtin.zeroCells (Value.agg z15.toArray).cells M).toList ++ (Builtin.zeroCells (Value.agg z15.toArray).cells (G - N1)).toList, ?_, this⟩
        · simp only [List.length_append, Array.length_toList, size_zeroCells, elHol.hzs]
          rw [← Nat.add_mul]
          congr 1
          omega
      obtain ⟨Z, hZl, ap⟩ : ∃ Z, Z.length = (G - i) * 15 ∧ ∀ ty, (Builtin.append_ #[44, 3] ty #[.slice (some ⟨g, 0, none⟩) i c, .int .i64 (M : Int)]).run Try.prog w = .ok (.slice (some ⟨b', 0, none⟩) N1 G) (w.drew.alloc (.cells (P ++ Z).toArray 130)) := by
        obtain ⟨Z, h1, h2⟩ := ap 44
        exact ⟨Z, h1, fun ty => h2⟩
      have eA : ∀ u, (Instr.slice 44 (.slice (some ⟨g, 0, none⟩) n c) none (some (.int .i64 (i : Int))) none).run Try.prog u = .ok (.slice (some ⟨g, 0, none⟩) i c) u := fun u => slHi g n c i (by omega) (by omega) .i64 u
      have eB : ∀ u, (Instr.slice 44 (.slice (some ⟨b', 0, none⟩) N1 G) (some (.int .i64 (i : Int))) none none).run Try.prog u = .ok (.slice (some ⟨b', i * 15, none⟩) M (G - i)) u := fun u => by have := slLo b' N1 G i (by omega) (by omega) .i64 u; rwa [show N1 - i = M from by omega] at this
      have eC : ∀ u, (Instr.slice 44 (.slice (some ⟨b', 0, none⟩) N1 G) (some (.int .i64 (I1 : Int))) none none).run Try.prog u = .ok (.slice (some ⟨b', I1 * 15, none⟩) DL (G - I1)) u := fun u => by have := slLo b' N1 G I1 (by omega) (by omega) .i64 u; rwa [show N1 - I1 = DL from by omega] at this
      have eD : ∀ u, (Instr.slice 44 (.slice (some ⟨g, 0, none⟩) n c) (some (.int .i64 (i : Int))) none none).run Try.prog u = .ok (.slice (some ⟨g, i * 15, none⟩) DL (c - i)) u := fun u => by have := slLo g n c i (by omega) (by omega) .i64 u; rwa [show n - i = DL from by omega] at this
      have hwm : IntKind.i64.wrap ((N1 : Int) - (i : Int)) = (M : Int) := by rw [IntWalk.i64_in _ (by omega)]; omega
      obtain ⟨C1, hC1⟩ : ∃ C, C = (P ++ X) ++ Z.drop 15 := ⟨_, rfl⟩
      obtain ⟨C2, hC2⟩ : ∃ C, C = (P ++ X) ++ (D ++ (Z.drop 15).drop D.length) := ⟨_, rfl⟩
      have hC2l : C2.length = G * 15 := by rw [hC2, List.length_append, List.length_append, List.length_append, List.length_drop, List.length_drop, hPl, hlx, hDl, hZl]; omega
      have hC2t : C2.take (N1 * 15) = LL.flatMap hols := by
        rw [hC2, hlf, ← List.append_assoc, List.append_assoc P X D, List.take_append_of_le_length (by rw [List.length_append, List.length_append, hPl, hlx, hDl, hN1]; omega), List.take_of_length_le (by rw [List.length_append, List.length_append, hPl, hlx, hDl, hN1]; omega)]
      have cp1 : ∀ u, Blk 130 u b' (P ++ Z) → Blk 130 u vb X → ∀ ty, (Builtin.copy_ #[44, 44] ty #[.slice (some ⟨b', i * 15, none⟩) M (G - i), .slice (some ⟨vb, 0, none⟩) 1 1]).run Try.prog u = .ok (goInt (Nat.min 1 M)) (u.setRow b' C1.toArray) := fun u hu hv ty => by
        have hm : Nat.min 1 M = 1 := Nat.min_eq_left (by omega)
        have := run_copy_rowK (P := Try.prog) u 44 44 ty 130 15 b' (i * 15) M (G - i) ⟨vb, 0, none⟩ 1 1 (P ++ Z).toArray 130 X Try.underlying44 szH hu (by rw [hlx, hm]) (srcX u hv) (by rw [List.size_toArray, List.length_append, hPl, hZl, hlx]; omega) hxo
        have hs := splice_in P X Z (by rw [hlx, hZl]; omega)
        rw [hPl] at hs
        rw [show (P ++ Z).toArray.toList = P ++ Z from rfl, hs, hlx, ← List.append_assoc, ← hC1] at this
        exact this
      have cp2 : ∀ u, Blk 130 u b' C1 → Blk 130 u g (P ++ D ++ R) → ∀ ty, (Builtin.copy_ #[44, 44] ty #[.slice (some ⟨b', I1 * 15, none⟩) DL (G - I1), .slice (some ⟨g, i * 15, none⟩) DL (c - i)]).run Try.prog u = .ok (goInt (Nat.min DL DL)) (u.setRow b' C2.toArray) := fun u hu hv ty => by
        have hm : Nat.min DL DL = DL := Nat.min_self _
        have hpx : (P ++ X).length = I1 * 15 := by rw [List.length_append, hPl, hlx, hI1]; omega
        have := run_copy_rowK (P := Try.prog) u 44 44 ty 130 15 b' (I1 * 15) DL (G - I1) ⟨g, i * 15, none⟩ DL (c - i) C1.toArray 130 D Try.underlying44 szH hu (by rw [hDl, hm, hDL]) (srcD u hv) (by rw [List.size_toArray, hC1, List.length_append, hpx, List.length_drop, hZl, hDl]; omega) hPD
        have hs := splice_in (P ++ X) D (Z.drop 15) (by rw [List.length_drop, hDl, hZl]; omega)
        rw [hpx, ← hC1, ← hC2] at hs
        rw [show C1.toArray.toList = C1 from rfl, hs] at this
        exact this
      have Ap := Lib.hid ap
      have Cp1 := Lib.hid cp1
      have Cp2 := Lib.hid cp2
      have hgb : g ≠ b' := by have := hR.lt; omega
      have hvbb : vb ≠ b' := by have := hx.lt; omega
      have Bb : B ≤ b' := by omega
      have Fin := Lib.hid (show ∀ u, Blk 130 u b' C2 → OwnOf hols 15 130 u B (.slice (some ⟨b', 0, none⟩) N1 G) LL from fun u hu => OwnOf.ofCells hu hC2l hGn Bb hC2t (by rw [hll, hN1]) hGm)
      have R0 : Blk 130 (w.drew.alloc (.cells (P ++ Z).toArray 130)) g (P ++ D ++ R) := (heap_alloc_old w.drew _ hR.lt).trans hR
      have X0 : Blk 130 (w.drew.alloc (.cells (P ++ Z).toArray 130)) vb X := (heap_alloc_old w.drew _ hx.lt).trans hx
      have N0 : Blk 130 (w.drew.alloc (.cells (P ++ Z).toArray 130)) b' (P ++ Z) := by rw [hb']; exact heap_alloc_new w.drew _
      have B0 : w.grownBy (w.drew.alloc (.cells (P ++ Z).toArray 130)) (some g) := (alloc_grown w _ _).but (some g)
      have Bw : w.heap.size ≤ b' := by omega
      rw [← hN1] at hwn hrz
      rw [← hI1] at hwi
      clear ap cp1 cp2 hC1 hC2 hC2l hC2t hN1 hI1 hDL hM hG hGn hGm hZl hlf hll hLL hX hP hD hsplit srcP srcD srcX hRl hPl hDl hfl ho hone rx hn hR hx hb'
      go_enter Try.func63, Try.ntmps63
      go_upto_region 11 with first
        | ((with_reducible show wpList _ _ _ (⟨some 40, _, _, _, _, _⟩ :: _) _ _); refine wpList_appRun (o := ⟨some 40, _, _, _, _, _⟩) (by rfl) (.tmp 34) (.tmp 39) 44 3 (by rfl) _ _ (by rfl) (by rfl) (Ap.out _) ?_; generalize w.drew.alloc (.cells (P ++ Z).toArray 130) = u1 at R0 X0 N0 B0 ⊢)
        | ((with_reducible show wpList _ _ _ (⟨some 45, _, _, _, _, _⟩ :: _) _ _); refine wpList_copyK (o := ⟨some 45, _, _, _, _, _⟩) (by rfl) (.tmp 43) (.tmp 44) 44 44 (by rfl) _ _ (by rfl) (by rfl) (Cp1.out u1 N0 X0 _) ?_; have N1' : Blk 130 (u1.setRow b' C1.toArray) b' C1 := setRow_heap u1 b' _ _ _ _ N0; have R1 : Blk 130 (u1.setRow b' C1.toArray) g (P ++ D ++ R) := (setRow_other u1 b' g _ hgb).trans R0; have B1 : w.grownBy (u1.setRow b' C1.toArray) (some g) := B0.andThen (setRow_grown u1 b' _) (fun j hj => .inl (by cases hj; exact Bw)); generalize u1.setRow b' C1.toArray = u2 at N1' R1 B1 ⊢; clear R0 X0 N0 B0)
      refine wp_region_typed u2 8 (by kernel_rfl) (by kernel_rfl) (Below.refl _ _) ?_; simp only [List.take_succ_cons, List.take_zero, List.take_nil]
      iterate 4 (refine wpX_step (by rfl) (fun K hK => ?_); go_simp; first | (refine hK _ ?_; clear hK K) | (apply Exists.intro; refine ⟨fun _ => ?_, hK _ ?_⟩; fail; clear hK K))
      (refine wpX_step (by rfl) (fun K hK => ?_); rw [if_pos (by rfl)]; refine ⟨_, fun u => const_slice _ Try.underlying44 (.tmp 46) (.tmp 49) (by rfl) (by rfl) (by rfl) (fun w1 => eC w1), hK _ ?_⟩; clear hK K; simp only [Act.put, List.setIfInBounds_toArray, List.set_cons_zero, List.set_cons_succ])
      iterate 2 (refine wpX_step (by rfl) (fun K hK => ?_); go_simp; first | (refine hK _ ?_; clear hK K) | (apply Exists.intro; refine ⟨fun _ => ?_, hK _ ?_⟩; fail; clear hK K))
      (refine wpX_step (by rfl) (fun K hK => ?_); rw [if_pos (by rfl)]; refine ⟨_, fun u => const_slice _ Try.underlying44 (.tmp 51) (.tmp 52) (by rfl) (by rfl) (by rfl) (fun w1 => eD w1), hK _ ?_⟩; clear hK K; simp only [Act.put, List.setIfInBounds_toArray, List.set_cons_zero, List.set_cons_succ])
      refine wpX_nil ?_
      intro u3 b3
      change wpList _ _ _ [_] _ _
      try simp only [Act.put, List.setIfInBounds_toArray, List.set_cons_zero, List.set_cons_succ]
      have R2 := Blk.below R1 b3 R1.lt
      have N2 := Blk.below N1' b3 N1'.lt
      have B2 : w.grownBy u3 (some g) := B1.andThen (Below.grownBy b3 none) (fun j hj => by cases hj)
      refine wpList_copyK (o := ⟨some 54, _, _, _, _, _⟩) (by rfl) (.tmp 50) (.tmp 53) 44 44 (by rfl) _ _ (by rfl) (by rfl) (Cp2.out u3 N2 R2 _) ?_
      have N3 : Blk 130 (u3.setRow b' C2.toArray) b' C2 := setRow_heap u3 b' _ _ _ _ N2
      have B3 : w.grownBy (u3.setRow b' C2.toArray) (some g) := B2.andThen (setRow_grown u3 b' _) (fun j hj => .inl (by cases hj; exact Bw))
      generalize u3.setRow b' C2.toArray = u4 at N3 B3 ⊢
      go_wp2_with fail
      go_ret
      exact ⟨_, rfl, Fin.out _ N3, B3⟩
end Go.Proofs.Ytakhaanenlblmaa
