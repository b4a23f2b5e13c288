/- The reference's KPlay. -/
import Derived.Test.YtakhaanenlblmaaMem14
import Derived.Test.YtakhaanenlblmaaMem10
set_option linter.unusedSimpArgs false
set_option linter.unusedVariables false
namespace Go.Proofs.Ytakhaanenlblmaa
open Go.RowKit
/-- what a reference's play has made so far -/
structure KpW (w : World) (g b n : Nat) (vo : Value) (M : List UInt8) (L : List Man) (u : World) : Prop where
  m : Blk 122 u g (kmc b M.length)
  k : KM u b n M
  o : OwnOf manc 6 42 u w.heap.size vo L
  bel : Below w.heap.size w u
theorem KpW.kept {w u u' : World} {g b n : Nat} {vo : Value} {M : List UInt8} {L : List Man} (h : KpW w g b n vo M L u) (hb : Below u.heap.size u u') : KpW w g b n vo M L u' := ⟨h.m.kept hb, h.k.kept hb, h.o.kept hb, Below.then h.bel hb⟩
theorem KM.apart {w : World} {b n g : Nat} {M : List UInt8} {e : TypeId} {cs : List Value} (h : KM w b n M) (hz : Blk e w g cs) : some b ≠ some g := by
  obtain ⟨D, ⟨es, clock, hm, _⟩, _⟩ := h
  have h1 : w.heap[g]? = some (.cells cs.toArray e (0, 0)) := hz
  intro e2
  cases e2
  rw [hm] at h1
  cases h1
theorem kmc_one (b s : Nat) : ∀ u ∈ kmc b s, u.oneCell' = true := by
  intro u hu
  unfold kmc at hu
  simp only [List.mem_cons, List.not_mem_nil, or_false] at hu
  rcases hu with rfl | rfl <;> rfl
set_option maxHeartbeats 2000000 in
set_option maxRecDepth 100000 in
theorem kplay_any (a : Option Addr) (n c : Nat) (ops : List Mop) (hn : ops.length = n) (w : World) (h : RowOf mopc 18 w (.slice a n c) ops) (hk : ∀ o ∈ ops, o.Ok) (hi : ∀ o ∈ ops, Bytes w o.dv o.D) (hb : n * 48 ≤ 140737488355328) :
    Calls Try.prog 16 #[.slice a n c] w fun e w' => ∃ v1 v2, e = .returned (.tuple #[v1, v2]) ∧ RowOf manc 6 w' v1 (playM [] ops).2 ∧ Bytes w' v2 (playM [] ops).1 ∧ Below w.heap.size w w' := by
  have Hn := Lib.hid hn
  have Hk := Lib.hid hk
  have Hi := Lib.hid hi
  have hmm := @run_makeMap Try.prog
  have hP0 : KpW w (w.heap.size + 1) w.heap.size 0 (.slice none 0 0) [] [] ((w.alloc (.map #[] 0)).alloc (.cells #[.map (some w.heap.size), .int .u64 0] 122)) := by
    refine ⟨?_, (KM.made w).kept ((Below.refl _ _).alloc (Nat.le_refl _) _), OwnOf.nil _ _ _ _ _, ((Below.refl _ _).alloc (Nat.le_refl _) _).alloc (by simp) _⟩
    have := Blk.new (w.alloc (.map #[] 0)) 122 [.map (some w.heap.size), .int .u64 0]
    rw [World.size_alloc] at this; exact this
  clear hn hk hi
  go_enter Try.func16, Try.ntmps16
  go_wp2_with fail
  go_loopw [5, 13] (fun vo ix wr => ∃ (k b : Nat) (M : List UInt8) (L : List Man), k ≤ n ∧ ix = .int .i64 (k : Int) ∧ KpW w (w.heap.size + 1) b (4096 * k) vo M L wr ∧ Hid (playM [] (ops.take k) = (M, L))) (fun _ ix _ => n - (intOf ix).toNat)
  case atStart => exact ⟨0, _, [], [], by omega, rfl, hP0, Lib.hid rfl⟩
  case round =>
    clear hP0 hmm
    obtain ⟨k, b, M, L, hkn, rfl, hP, hPM⟩ := hrel
    by_cases hlt : k < n
    · have hz : (k : Int) < (n : Int) := by omega
      have hkl : k < ops.length := by rw [Hn.out]; exact hlt
      obtain ⟨ab, off, rfl, hr⟩ := RowOf.range mopc_len (h.below hP.bel) k hkl
      have ho := Hk.out _ (List.getElem_mem hkl)
      have hI := fun u (hu : Below w.heap.size wr u) => (Hi.out _ (List.getElem_mem hkl)).below (hP.bel.trans hu)
      have hst : playM [] (ops.take (k + 1)) = ((stepM M ops[k]).1, L ++ [(stepM M ops[k]).2]) := by
        rw [List.take_succ_eq_append_getElem hkl, playM_snoc, hPM.out]
      have hM4 : M.length ≤ 4096 ∧ M.length % 32 = 0 := by have := playM_ok (ops.take k) [] (by simp) rfl; rw [hPM.out] at this; exact this
      have hLl : L.length = k := by have := playM_len (ops.take k) []; rw [hPM.out] at this; rw [List.length_take] at this; simp only at this; omega
      obtain ⟨o, hoo⟩ : ∃ o, o = ops[k] := ⟨_, rfl⟩
      rw [← hoo] at hr ho hI hst
      obtain ⟨X, hX⟩ : ∃ X, X = mopc o := ⟨_, rfl⟩
      have hXl : X.length = 18 := by rw [hX]; rfl
      rw [← hX] at hr
      have hXo : ∀ u ∈ X, u.oneCell' = true := by rw [hX]; exact mopc_one (hI wr (Below.refl _ _))
      obtain ⟨M', A, hSA⟩ : ∃ M' A, stepM M o = (M', A) := ⟨_, _, rfl⟩
      obtain ⟨YA, hYA⟩ : ∃ Y, Y = manc A := ⟨_, rfl⟩
      have hYl : YA.length = 6 := by rw [hYA]; rfl
      have hYo : ∀ u ∈ YA, u.oneCell' = true := by rw [hYA]; exact manc_one _
      obtain ⟨KB, hKB⟩ : ∃ K, K = kmc b M.length := ⟨_, rfl⟩
      have hKl : KB.length = 2 := by rw [hKB]; rfl
      have dc : ∀ u, KM u b (4096 * k) M → Below w.heap.size wr u → Calls Try.prog 57 #[.agg KB.toArray, .agg X.toArray] u fun e w' => ∃ b' C', e = .returned (.tuple #[.agg C'.toArray, .agg YA.toArray]) ∧ Hid (C' = kmc b' M'.length) ∧ C'.length = 2 ∧ (∀ x ∈ C', x.oneCell' = true) ∧ KM w' b' (4096 * (k + 1)) M' ∧ Below u.heap.size u w' := fun u hu hb => by
        rw [hX, hKB]
        refine (one_any o ho b (4096 * k) M hM4.1 hM4.2 u (hI u hb) hu (by omega)).mono ?_
        rintro e w' ⟨b', n', h1, h2, h3, h4⟩
        rw [hSA] at h1 h2
        exact ⟨b', _, by rw [h1, hYA], Lib.hid rfl, rfl, kmc_one _ _, h2.mono (by omega), h4⟩
      rw [hSA] at hst
      have zm : ∀ u, Below wr.heap.size wr u → Blk 122 u (w.heap.size + 1) KB := fun u hu => by rw [hKB]; exact hP.m.kept hu
      have Zm := Lib.hid zm
      have Dc := Lib.hid dc
      have Hst := Lib.hid hst
      have HYA := Lib.hid hYA
      have HLl := Lib.hid hLl
      have n7 := Blk.newA wr 118 zOp.toArray
      have b7 : Below wr.heap.size wr (wr.alloc (.cells zOp.toArray 118)) := (Below.refl _ _).alloc (Nat.le_refl _) _
      clear dc hst hYA hX hSA hI hoo hkl hLl hPM hM4 ho hKB zm
      obtain ⟨va, vc, rfl, _⟩ := hP.o.form
      have hLn : L.length + 1 ≤ n := by rw [HLl.out]; omega
      go_wp2_with (first
        | ((with_reducible show wpList _ _ _ (⟨some 16, _, _, _, _, _⟩ :: _) _ _); refine wpList_loadW (o := ⟨some 16, _, _, _, _, _⟩) 118 (.tmp 15) (by rfl) ab (off + k * 18) (by rfl) aggOp hXl hr (by rfl) ?_)
        | ((with_reducible show wpList _ _ _ (⟨none, Op.store _ _ (Operand.tmp 16), _, _, _, _⟩ :: _) _ _); refine wpList_storeA (o := ⟨none, _, _, _, _, _⟩) (by rfl) 118 (.tmp 7) (.tmp 16) (by rfl) wr.heap.size X (by rfl) (by rfl) aggOp n7 hXl (by rfl) hXo b7 (Nat.le_refl _) ?_; intro w2 z7 b2 _; have lt2 := (hP.kept b2).o.ltT; have bb2 := (Below.refl w2.heap.size w2).alloc (Nat.le_refl _) (.cells z6.toArray 42); have P3 := (hP.kept b2).kept bb2; have z73 := z7.kept bb2; have zm3 := Zm.out _ (Below.then b2 bb2); have z83 := Blk.new w2 42 z6; have bw3 := Below.then b2 bb2)
        | ((with_reducible show wpList _ _ _ (⟨some 18, _, _, _, _, _⟩ :: _) _ _); refine wpList_loadA (o := ⟨some 18, _, _, _, _, _⟩) (by rfl) 122 (.tmp 4) (by rfl) (w.heap.size + 1) (by rfl) aggKm zm3 hKl ?_)
        | ((with_reducible show wpList _ _ _ (⟨some 19, _, _, _, _, _⟩ :: _) _ _); refine wpList_loadA (o := ⟨some 19, _, _, _, _, _⟩) (by rfl) 118 (.tmp 7) (by rfl) wr.heap.size (by rfl) aggOp z73 hXl ?_)
        | (go_at_call 57; refine (Dc.out _ P3.k (bw3.mono hP.bel.size)).mono ?_; rintro e w4 ⟨b', C', rfl, hC', hCl, hCo, hK4, b4⟩; have P4 := P3.kept b4; have z84 := z83.kept b4)
        | ((with_reducible show wpList _ _ _ (⟨none, Op.store _ _ (Operand.tmp 21), _, _, _, _⟩ :: _) _ _); refine wpList_storeA (o := ⟨none, _, _, _, _, _⟩) (by rfl) 122 (.tmp 4) (.tmp 21) (by rfl) (w.heap.size + 1) C' (by rfl) (by rfl) aggKm P4.m hCl rfl hCo (Below.refl (w.heap.size + 1) w4) (Nat.le_refl _) ?_; intro w5 zm5 _ g5; have K5 := hK4.grown g5 (hK4.apart P4.m); have o5' := P4.o.grown g5 (fun x hx e => P4.o.notT P4.m (by decide) (by rw [e, hx])); have bl5 := P4.bel.grown g5 P4.bel.size (fun x hx => by cases hx; omega); have z85 := z84.grown g5 (by intro e; injection e with e; have := P3.m.lt; have := z84.apartT P4.m (by decide); omega))
        | ((with_reducible show wpList _ _ _ (⟨none, Op.store _ _ (Operand.tmp 22), _, _, _, _⟩ :: _) _ _); refine wpList_storeA (o := ⟨none, _, _, _, _, _⟩) (by rfl) 42 (.tmp 8) (.tmp 22) (by rfl) w2.heap.size YA (by rfl) (by rfl) aggAns z85 hYl rfl hYo (Below.refl w2.heap.size w5) (Nat.le_refl _) ?_; intro w6 z86 _ g6; have K6 := K5.grown g6 (K5.apart z85); have o6 := o5'.grown g6 (fun x hx e => by cases hx; exact absurd (lt2 _ e) (by omega)); have bl6 := bl5.grown g6 bl5.size (fun x hx => by cases hx; exact Nat.le_trans hP.bel.size b2.size); have zm6 := zm5.grown g6 (by intro e; injection e with e; have := z85.apartT zm5 (by decide); omega))
        | ((with_reducible show wpList _ _ _ (⟨some 24, _, _, _, _, _⟩ :: _) _ _); refine wpList_loadA (o := ⟨some 24, _, _, _, _, _⟩) (by rfl) 42 (.tmp 8) (by rfl) w2.heap.size (by rfl) aggAns z86 hYl ?_)
        | ((with_reducible show wpList _ _ _ (⟨some 25, _, _, _, _, _⟩ :: _) _ _); refine wpList_build1 (o := ⟨some 25, _, _, _, _, _⟩) (by rfl) (.tmp 24) 33 (by rfl) elAns (.agg YA.toArray) YA (by rfl) (by rfl) hYl (by omega) ?_; have r17 := RowOf.one manc 6 w6 A YA.toArray 42 (by rw [HYA.out]) (manc_len _); have b7' := (Below.refl w6.heap.size w6).alloc (Nat.le_refl _) (.cells YA.toArray 42); have o7 := o6.kept b7'; have K7 := K6.kept b7'; have zm7 := zm6.kept b7'; have bl7 := Below.then bl6 b7')
        | ((with_reducible show wpList _ _ _ (⟨some 26, _, _, _, _, _⟩ :: _) _ _); refine wpList_appA (o := ⟨some 26, _, _, _, _, _⟩) (by rfl) (.tmp 23) (.tmp 25) 33 (by rfl) elAns (by rfl) o7 (by rfl) r17 bl7.size (by simp only [List.length_cons, List.length_nil]; omega) (by simp only [List.length_cons, List.length_nil]; unfold maxLen; omega) ?_; intro v8 w8 o8 g8 _))
      go_roundw
      case rel =>
        refine ⟨k + 1, b', M', L ++ [A], by omega, by go_num, ⟨?_, ?_, o8, ?_⟩, Hst⟩
        · rw [← hC'.out]; exact zm7.grown g8 (o7.notT zm7 (by decide))
        · refine K7.grown g8 (fun e => ?_)
          obtain ⟨D, ⟨es, clock, hm, _⟩, _⟩ := K7
          rcases o7.2 with ⟨e3, _⟩ | ⟨q, cap, cur, e3, _, hq, _⟩
          · rw [e3] at e; simp [Value.ownBlock] at e
          · rw [e3] at e
            simp only [Value.ownBlock, Option.some.injEq] at e
            rw [← e, hm] at hq
            cases hq
        · exact bl7.grown g8 bl7.size (fun x hx => o7.lt x hx)
      case measure => simp [intOf]; omega
    · obtain rfl : k = n := by omega
      have hz : ¬ (k : Int) < (k : Int) := by omega
      have hPl : playM [] ops = (M, L) := by have := hPM.out; rwa [← Hn.out, List.take_length] at this
      have hM4 : M.length ≤ 4096 := by have := playM_ok ops [] (by simp) rfl; rw [hPl] at this; exact this.1
      have HPl := Lib.hid hPl
      obtain ⟨va, vc, rfl, _⟩ := hP.o.form
      have c1 : wr.cell? ⟨w.heap.size + 1, 1, none⟩ = some (.int .u64 (M.length : Int)) := hP.m.cell 1
      have rc := kread_any (w.heap.size + 1) b (4096 * k) M.length 0 M.length M (by omega) (by omega) wr ⟨hP.m, hP.k⟩
      rw [rdM_all] at rc
      obtain ⟨ml, hml⟩ : ∃ m, m = M.length := ⟨_, rfl⟩
      rw [← hml] at rc c1
      have Rc := Lib.hid rc
      clear hPl hPM rc hml hM4
      go_wp2_with (go_at_call 58; refine Rc.out.mono ?_; rintro e w3 ⟨v3, rfl, o3, b3⟩)
      go_ret2
      rw [HPl.out]
      exact ⟨_, _, rfl, hP.o.row.kept b3, o3.row, Below.then hP.bel b3⟩
end Go.Proofs.Ytakhaanenlblmaa
