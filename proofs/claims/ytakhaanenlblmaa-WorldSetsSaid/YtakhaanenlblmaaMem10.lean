/- memory.Play. -/
import Derived.Test.YtakhaanenlblmaaMem9
set_option linter.unusedSimpArgs false
set_option linter.unusedVariables false
namespace Go.Proofs.Ytakhaanenlblmaa
open Go.RowKit
theorem OwnOf.apartO {α β : Type} {f : α → List Value} {f' : β → List Value} {size size' : Nat} {e e' : TypeId} {w : World} {B B' : Nat} {v v' : Value} {l : List α} {l' : List β} (h : OwnOf f size e w B v l) (h' : OwnOf f' size' e' w B' v' l') (hne : e ≠ e') :
    ∀ x, v.ownBlock = some x → v'.ownBlock ≠ some x := by
  intro x hx hx'
  rcases h.2 with ⟨rfl, _⟩ | ⟨g, cap, cur, rfl, _, hg, _⟩
  · simp [Value.ownBlock] at hx
  · rcases h'.2 with ⟨rfl, _⟩ | ⟨g', cap', cur', rfl, _, hg', _⟩
    · simp [Value.ownBlock] at hx'
    · simp only [Value.ownBlock, Option.some.injEq] at hx hx'
      subst hx
      subst hx'
      rw [hg] at hg'
      simp only [Option.some.injEq, Obj.cells.injEq] at hg'
      exact hne hg'.2.1
theorem playM_snoc (M : List UInt8) (l : List Mop) (o : Mop) : playM M (l ++ [o]) = ((stepM (playM M l).1 o).1, (playM M l).2 ++ [(stepM (playM M l).1 o).2]) := by
  induction l generalizing M with
  | nil => rfl
  | cons x l ih =>
    simp only [List.cons_append, playM]
    rw [ih]
theorem playM_ok (l : List Mop) : ∀ (M : List UInt8), M.length ≤ 4096 → M.length % 32 = 0 → (playM M l).1.length ≤ 4096 ∧ (playM M l).1.length % 32 = 0 := by
  induction l with
  | nil => intro M h1 h2; exact ⟨h1, h2⟩
  | cons o l ih =>
    intro M h1 h2
    have := stepM_ok o h1 h2
    exact ih _ this.1 this.2
theorem playM_len (l : List Mop) : ∀ (M : List UInt8), (playM M l).2.length = l.length := by
  induction l with
  | nil => intro M; rfl
  | cons o l ih => intro M; simp only [playM, List.length_cons]; rw [ih]
theorem elAns : El Try.prog 33 42 (.agg z6.toArray) 6 48 manc where
  ht := Try.underlying33
  hi := by kernel_rfl
  hzs := rfl
  hsz := by omega
  hf := manc_len
  h1 := manc_one
theorem mopc_one {o : Mop} {w : World} (h : Bytes w o.dv o.D) : ∀ u ∈ mopc o, u.oneCell' = true := by
  intro u hu
  obtain ⟨a, c, hv, _⟩ := RowOf.form (f := b8) (size := 1) h
  unfold mopc at hu
  rw [hv] at hu
  rcases List.mem_append.1 hu with h | h
  · rw [List.mem_singleton] at h; subst h; rfl
  · rcases List.mem_append.1 h with h | h
    · exact wcs_one _ u h
    · rcases List.mem_append.1 h with h | h
      · exact wcs_one _ u h
      · rcases List.mem_append.1 h with h | h
        · exact wcs_one _ u h
        · rcases List.mem_append.1 h with h | h
          · exact wcs_one _ u h
          · rw [List.mem_singleton] at h; subst h; rfl
def zOp : List Value := [.int .i64 0, .int .u64 0, .int .u64 0, .int .u64 0, .int .u64 0, .int .u64 0, .int .u64 0, .int .u64 0, .int .u64 0, .int .u64 0, .int .u64 0, .int .u64 0, .int .u64 0, .int .u64 0, .int .u64 0, .int .u64 0, .int .u64 0, .slice none 0 0]
/-- what a memory's play has made so far -/
structure PlW (w : World) (v vo : Value) (M : List UInt8) (L : List Man) (u : World) : Prop where
  m : MemAt u w.heap.size w.heap.size v M
  o : OwnOf manc 6 42 u w.heap.size vo L
  bel : Below w.heap.size w u
theorem PlW.kept {w u u' : World} {v vo : Value} {M : List UInt8} {L : List Man} (h : PlW w v vo M L u) (hb : Below u.heap.size u u') : PlW w v vo M L u' := ⟨h.m.kept hb, h.o.kept hb, Below.then h.bel hb⟩
theorem PlW.did {w u u' : World} {v vo v' : Value} {M M' : List UInt8} {L : List Man} (h : PlW w v vo M L u) (hm : MemAt u' w.heap.size w.heap.size v' M') (hb : But2 w.heap.size v u u') : PlW w v' vo M' L u' :=
  ⟨hm, h.o.but hb (h.o.notT h.m.z (by decide)) (h.o.apartO h.m.o (by decide)), ⟨hb.os.trans h.bel.os, hb.tape.trans h.bel.tape, hb.output.trans h.bel.output, Nat.le_trans h.bel.size hb.size, fun k hk => by
    rw [hb.block k (Nat.lt_of_lt_of_le hk h.bel.size) (by omega) (fun e => by have := h.m.o.lt k e; omega)]
    exact h.bel.block k hk⟩⟩
set_option maxHeartbeats 2000000 in
set_option maxRecDepth 100000 in
theorem play_any (a : Option Addr) (n c : Nat) (ops : List Mop) (hn : ops.length = n) (w : World) (h : RowOf mopc 18 w (.slice a n c) ops) (hk : ∀ o ∈ ops, o.Ok) (hi : ∀ o ∈ ops, Bytes w o.dv o.D) (hb : n * 48 ≤ 140737488355328) :
    Calls Try.prog 15 #[.slice a n c] w fun e w' => ∃ v1 v2, e = .returned (.tuple #[v1, v2]) ∧ RowOf manc 6 w' v1 (playM [] ops).2 ∧ Bytes w' v2 (playM [] ops).1 ∧ Below w.heap.size w w' := by
  have Hn := Lib.hid hn
  have Hk := Lib.hid hk
  have Hi := Lib.hid hi
  have hz0 : Blk 116 (w.alloc (.cells #[.slice none 0 0] 116)) w.heap.size [.slice none 0 0] := Blk.new w 116 [.slice none 0 0]
  have hP0 : PlW w (.slice none 0 0) (.slice none 0 0) [] [] (w.alloc (.cells #[.slice none 0 0] 116)) := ⟨⟨hz0, OwnOf.nil _ _ _ _ _⟩, OwnOf.nil _ _ _ _ _, (Below.refl _ _).alloc (Nat.le_refl _) _⟩
  clear hn hk hi hz0
  go_enter Try.func15, Try.ntmps15
  go_wp2_with fail
  go_loopw [5, 10] (fun vo ix wr => ∃ (k : Nat) (v : Value) (M : List UInt8) (L : List Man), k ≤ n ∧ ix = .int .i64 (k : Int) ∧ PlW w v vo M L wr ∧ Hid (playM [] (ops.take k) = (M, L))) (fun _ ix _ => n - (intOf ix).toNat)
  case atStart => exact ⟨0, _, [], [], by omega, rfl, hP0, Lib.hid rfl⟩
  case round =>
    clear hP0
    obtain ⟨k, v, M, L, hkn, rfl, hP, hPM⟩ := hrel
    by_cases hlt : k < n
    · have hz : (k : Int) < (n : Int) := by omega
      have hkl : k < ops.length := by rw [Hn.out]; exact hlt
      obtain ⟨b, off, rfl, hr⟩ := RowOf.range mopc_len (h.below hP.bel) k hkl
      have ho := Hk.out _ (List.getElem_mem hkl)
      have hI := fun u (hu : Below w.heap.size wr u) => (Hi.out _ (List.getElem_mem hkl)).below (hP.bel.trans hu)
      have hst : playM [] (ops.take (k + 1)) = ((stepM M ops[k]).1, L ++ [(stepM M ops[k]).2]) := by
        rw [List.take_succ_eq_append_getElem hkl, playM_snoc, hPM.out]
      have hM4 : M.length ≤ 4096 := by have := playM_ok (ops.take k) [] (by simp) rfl; rw [hPM.out] at this; exact this.1
      have hLl : L.length = k := by have := playM_len (ops.take k) []; rw [hPM.out] at this; rw [List.length_take] at this; simp only at this; omega
      obtain ⟨o, hoo⟩ : ∃ o, o = ops[k] := ⟨_, rfl⟩
      rw [← hoo] at hr ho hI hst
      obtain ⟨X, hX⟩ : ∃ X, X = mopc o := ⟨_, rfl⟩
      have hXl : X.length = 18 := by rw [hX]; rfl
      rw [← hX] at hr
      have hXo : ∀ u ∈ X, u.oneCell' = true := by rw [hX]; exact mopc_one (hI wr (Below.refl _ _))
      obtain ⟨M', A, hSA⟩ : ∃ M' A, stepM M o = (M', A) := ⟨_, _, rfl⟩
      obtain ⟨YA, hYA⟩ : ∃ Y, Y = manc A := ⟨_, rfl⟩
      have hYl : YA.length = 6 := by rw [hYA]; rfl
      have hYo : ∀ u ∈ YA, u.oneCell' = true := by rw [hYA]; exact manc_one _
      have dc : ∀ u, MemAt u w.heap.size w.heap.size v M → Below w.heap.size wr u → Calls Try.prog 56 #[.pointer (some ⟨w.heap.size, 0, none⟩), .agg X.toArray] u fun e w' => e = .returned (.agg YA.toArray) ∧ ∃ v', MemAt w' w.heap.size w.heap.size v' M' ∧ But2 w.heap.size v u w' := fun u hu hb => by
        rw [hX]
        refine (do_any o ho w.heap.size w.heap.size v M hM4 u (fun u' hu' => hI u' (hb.trans hu')) (Nat.le_refl _) hu (Nat.le_trans hP.bel.size hb.size)).mono ?_
        rintro e w' ⟨h1, v', h2, h3, _⟩
        rw [hSA] at h1 h2
        exact ⟨by rw [h1, hYA], v', h2, h3⟩
      rw [hSA] at hst
      have Dc := Lib.hid dc
      have Hst := Lib.hid hst
      have HYA := Lib.hid hYA
      have HLl := Lib.hid hLl
      have n7 := Blk.newA wr 118 zOp.toArray
      have b7 : Below wr.heap.size wr (wr.alloc (.cells zOp.toArray 118)) := (Below.refl _ _).alloc (Nat.le_refl _) _
      clear dc hst hYA hX hSA hI hoo hkl hLl hPM hM4 ho
      obtain ⟨va, vc, rfl, _⟩ := hP.o.form
      have hLn : L.length + 1 ≤ n := by rw [HLl.out]; omega
      go_wp2_with (first
        | ((with_reducible show wpList _ _ _ (⟨some 13, _, _, _, _, _⟩ :: _) _ _); refine wpList_loadW (o := ⟨some 13, _, _, _, _, _⟩) 118 (.tmp 12) (by rfl) b (off + k * 18) (by rfl) aggOp hXl hr (by rfl) ?_)
        | ((with_reducible show wpList _ _ _ (⟨none, Op.store _ _ (Operand.tmp 13), _, _, _, _⟩ :: _) _ _); refine wpList_storeA (o := ⟨none, _, _, _, _, _⟩) (by rfl) 118 (.tmp 7) (.tmp 13) (by rfl) wr.heap.size X (by rfl) (by rfl) aggOp n7 hXl (by rfl) hXo b7 (Nat.le_refl _) ?_; intro w2 z7 b2 _; have P2 := hP.kept b2)
        | ((with_reducible show wpList _ _ _ (⟨some 15, _, _, _, _, _⟩ :: _) _ _); refine wpList_loadA (o := ⟨some 15, _, _, _, _, _⟩) (by rfl) 118 (.tmp 7) (by rfl) wr.heap.size (by rfl) aggOp z7 hXl ?_)
        | (go_at_call 56; refine (Dc.out w2 P2.m (b2.mono hP.bel.size)).mono ?_; rintro e w3 ⟨rfl, v3, hm3, bt3⟩; have P3 := P2.did hm3 bt3)
        | ((with_reducible show wpList _ _ _ (⟨some 17, _, _, _, _, _⟩ :: _) _ _); refine wpList_build1 (o := ⟨some 17, _, _, _, _, _⟩) (by rfl) (.tmp 16) 33 (by rfl) elAns (.agg YA.toArray) YA (by rfl) (by rfl) hYl (by omega) ?_; have r17 := RowOf.one manc 6 w3 A YA.toArray 42 (by rw [HYA.out]) (manc_len _); have P4 := P3.kept ((Below.refl w3.heap.size w3).alloc (Nat.le_refl _) (.cells YA.toArray 42)))
        | ((with_reducible show wpList _ _ _ (⟨some 18, _, _, _, _, _⟩ :: _) _ _); refine wpList_appA (o := ⟨some 18, _, _, _, _, _⟩) (by rfl) (.tmp 14) (.tmp 17) 33 (by rfl) elAns (by rfl) P4.o (by rfl) r17 P4.bel.size (by simp only [List.length_cons, List.length_nil]; omega) (by simp only [List.length_cons, List.length_nil]; unfold maxLen; omega) ?_; intro v5 w5 o5 g5 _))
      go_roundw
      case rel =>
        refine ⟨k + 1, v3, M', L ++ [A], by omega, by go_num, ⟨⟨?_, ?_⟩, o5, ?_⟩, Hst⟩
        · exact P4.m.z.grown g5 (P4.o.notT P4.m.z (by decide))
        · exact P4.m.o.grown g5 (fun x hx => P4.m.o.apartO P4.o (by decide) |> fun h e => h x e hx)
        · exact P4.bel.grown g5 P4.bel.size (fun x hx => P4.o.lt x hx)
      case measure => simp [intOf]; omega
    · obtain rfl : k = n := by omega
      have hz : ¬ (k : Int) < (k : Int) := by omega
      have hPl : playM [] ops = (M, L) := by have := hPM.out; rwa [← Hn.out, List.take_length] at this
      have HPl := Lib.hid hPl
      obtain ⟨va, vc, rfl, _⟩ := hP.o.form
      obtain ⟨ma, mc, rfl, _⟩ := hP.m.o.form
      have c0 : wr.cell? ⟨w.heap.size, 0, none⟩ = some (.slice ma M.length mc) := hP.m.z.cell 0
      clear hPl hPM
      go_wp2_with fail
      go_quiet (fail)
      go_wp2_with fail
      go_ret2
      rw [HPl.out]
      have b5 : Below wr.heap.size wr (wr.drewN nq) := ⟨rfl, rfl, rfl, Nat.le_refl _, fun _ _ => rfl⟩
      exact ⟨_, _, rfl, hP.o.row.kept b5, hP.m.o.row.kept b5, Below.then hP.bel b5⟩
end Go.Proofs.Ytakhaanenlblmaa
