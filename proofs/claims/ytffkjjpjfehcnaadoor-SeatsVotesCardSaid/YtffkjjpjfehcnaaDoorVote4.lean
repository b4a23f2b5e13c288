/- The reference's VHas. -/
import Derived.Test.YtffkjjpjfehcnaaDoorVote3
import Derived.Test.YtffkjjpjfehcnaaDoorBuild0
import Derived.Test.YtffkjjpjfehcnaaDoorHashQ
set_option linter.unusedSimpArgs false
set_option linter.unusedVariables false
namespace Go.Proofs.YtffkjjpjfehcnaaDoor
open Go.RowKit
def hitV (x : Nat) (s : List UInt8) (v : Vt) : Bool := v.seat == x && v.sum == s
def hasV (L : List Vt) (x : Nat) (s : List UInt8) : Bool := L.any (hitV x s)
theorem hasV_mem {L : List Vt} {x : Nat} {s : List UInt8} (hs : s.length = 32) : hasV L x s = true ↔ (⟨x, s, hs⟩ : Vt) ∈ L := by
  unfold hasV hitV
  rw [List.any_eq_true]
  constructor
  · rintro ⟨v, hv, he⟩
    simp only [Bool.and_eq_true, beq_iff_eq] at he
    obtain ⟨rfl, rfl⟩ := he
    exact hv
  · intro h
    exact ⟨_, h, by simp⟩
/-- '==' behind a guard that holds -/
theorem wpList_eqlG {P : Program} {w : World} {ops : Array Oper} {rest : List Oper} {o : Oper} {a : Act} {Q : Exit → Act → World → Prop} (ty : TypeId) (x y : Operand) (t : TypeId) (ho : o.op = .binOp .eql ty x y t) {v v' u : Value} (hx : a.eval x = v) (hy : a.eval y = v')
    (hg : ∀ o1 o2 w1, (eqGuard .eql ty o1 o2 v v').run P w1 = .ok () w1) (hq : ∀ w1, (binOp .eql ty v v').run P w1 = .ok u w1) (hw : Region.wanted o (yielded ops a.tmps) = true) (h : wpList P ops Q rest (a.put o.dst u) w) : wpList P ops Q (o :: rest) a w := by
  refine wpList_step fun K hK => ?_
  rw [if_pos hw]
  unfold Oper.wp execOp
  simp only [ho, hx, hy, Sem.run_bind, hg, hq, Result.andThen_ok, Sem.run_pure]
  exact hK _ _ h
theorem vtc_sum (v : Vt) : ((vtc v).drop 1).take 32 = by8 v.sum := by
  show (by8 v.sum).take 32 = _
  exact List.take_of_length_le (by rw [by8_len, v.len]; omega)
set_option maxHeartbeats 2000000 in
set_option maxRecDepth 100000 in
theorem vhas_any (a : Option Addr) (n c : Nat) (l : List Vt) (hn : l.length = n) (hs : n ≤ 140737488355328) (x : Nat) (s : List UInt8) (hsl : s.length = 32) (w : World) (h : RowOf vtc 33 w (.slice a n c) l) :
    Calls Tryd.prog 12 #[.slice a n c, .int .u64 (x : Int), .agg (by8 s).toArray] w fun e w' => e = .returned (.bool (hasV l x s)) ∧ Below w.heap.size w w' := by
  have Hn := Lib.hid hn
  have hz0 : Blk 25 (w.alloc (.cells (by8 s).toArray 25)) w.heap.size (by8 s) := Blk.new w _ _
  have hb0 : Below w.heap.size w (w.alloc (.cells (by8 s).toArray 25)) := (Below.refl _ _).alloc (Nat.le_refl _) _
  have hl32 : (by8 s).length = 32 := by rw [by8_len, hsl]
  clear hn
  go_enter Tryd.func12, Tryd.ntmps12
  go_wp2_with fail
  try simp only [Act.put]
  go_loopw [11] (fun ix wr => ∃ i : Nat, i ≤ n ∧ ix = .int .i64 (i : Int) ∧ Blk 25 wr w.heap.size (by8 s) ∧ Below w.heap.size w wr ∧ Hid (hasV (l.take i) x s = false)) (fun ix _ => n - (intOf ix).toNat)
  case atStart => exact ⟨0, by omega, rfl, hz0, hb0, Lib.hid rfl⟩
  case round =>
    clear hz0 hb0
    obtain ⟨i, hi, rfl, hz, hb, Hh⟩ := hrel
    by_cases hlt : i < n
    · have hki : (i : Int) < (n : Int) := by omega
      have hl1 : i < l.length := by rw [Hn.out]; exact hlt
      obtain ⟨b2, off2, rfl, hr⟩ := RowOf.range vtc_len (h.below hb) i hl1
      have hnext : l.take (i + 1) = l.take i ++ [l[i]] := List.take_succ_eq_append_getElem hl1
      have hmem : l[i] ∈ l := List.getElem_mem hl1
      generalize l[i] = v at *
      have Hnext := Lib.hid hnext
      have Hmem := Lib.hid hmem
      have hvl := vtc_len v
      have hvs : (by8 v.sum).length = 32 := by rw [by8_len, v.len]
      have g1 : ∀ o1 o2 w1, (eqGuard .eql 25 o1 o2 (.agg (by8 v.sum).toArray) (.agg (by8 s).toArray)).run Tryd.prog w1 = .ok () w1 := fun o1 o2 w1 => guard_eq_h v.sum s o1 o2 w1
      have q1 : ∀ w1, (binOp .eql 25 (.agg (by8 v.sum).toArray) (.agg (by8 s).toArray)).run Tryd.prog w1 = .ok (.bool (v.sum == s)) w1 := fun w1 => run_eq_h v.sum s v.len hsl w1
      obtain ⟨r, hr0⟩ : ∃ r, r = (v.sum == s) := ⟨_, rfl⟩
      rw [← hr0] at q1
      have G1 := Lib.hid g1
      have Q1 := Lib.hid q1
      have Hr := Lib.hid hr0
      have hhit : hasV (l.take (i + 1)) x s = ((v.seat == x) && r) := by
        rw [hnext]
        unfold hasV
        rw [List.any_append]
        have := Hh.out
        unfold hasV at this
        rw [this, hr0]
        simp [hitV]
      have Hhit := Lib.hid hhit
      have hfull : hasV (l.take (i + 1)) x s = true → hasV l x s = true := by
        unfold hasV
        rw [List.any_eq_true, List.any_eq_true]
        rintro ⟨y, hy, he⟩
        exact ⟨y, List.mem_of_mem_take hy, he⟩
      have Hfull := Lib.hid hfull
      obtain ⟨q, hq⟩ : ∃ q, q = (v.seat == x) := ⟨_, rfl⟩
      have hqi : ((v.seat : Int) == (x : Int)) = q := by
        rw [hq, Bool.eq_iff_iff]; simp only [beq_iff_eq]; omega
      have Hq := Lib.hid hq
      clear hnext hmem hl1 g1 q1 hr0 hhit hfull hq
      cases q <;> cases r
      · go_wp2_with (first
        | (refine wpList_load_mid (op := ⟨some 14, _, _, _, _, _⟩) (by rfl) 34 (.tmp 13) (by rfl) b2 (off2 + i * 33) (by rfl) (vtc v) _ hr Tryd.underlying34 rfl (by rw [hvl]; kernel_rfl) ?_)
        | ((with_reducible show wpList _ _ _ (⟨none, Op.store _ _ (Operand.tmp 14), _, _, _, _⟩ :: _) _ _); refine wpList_storeA (o := ⟨none, _, _, _, _, _⟩) (by rfl) 34 (.tmp 8) (.tmp 14) (by rfl) wr.heap.size (vtc v) (by rfl) (by rfl) aggVote (Blk.newA wr 34 _) hvl (by first | rfl | kernel_rfl) (vtc_one v) ((Below.refl wr.heap.size wr).alloc (Nat.le_refl _) _) (Nat.le_refl _) ?_; intro w6 h6 b6 _; have hz6 := hz.kept b6; have hb6 := Below.then hb b6; have c6 : w6.cell? ⟨wr.heap.size, 0, none⟩ = some (.int .u64 (v.seat : Int)) := (h6.cell 0); have rg6 := h6.range 1 32; rw [vtc_sum] at rg6))
        go_roundw
        case rel => exact ⟨i + 1, by omega, by go_num, hz6, hb6, Lib.hid (by rw [Hhit.out, ← Hq.out]; rfl)⟩
        case measure => simp [intOf]; omega
      · go_wp2_with (first
        | (refine wpList_load_mid (op := ⟨some 14, _, _, _, _, _⟩) (by rfl) 34 (.tmp 13) (by rfl) b2 (off2 + i * 33) (by rfl) (vtc v) _ hr Tryd.underlying34 rfl (by rw [hvl]; kernel_rfl) ?_)
        | ((with_reducible show wpList _ _ _ (⟨none, Op.store _ _ (Operand.tmp 14), _, _, _, _⟩ :: _) _ _); refine wpList_storeA (o := ⟨none, _, _, _, _, _⟩) (by rfl) 34 (.tmp 8) (.tmp 14) (by rfl) wr.heap.size (vtc v) (by rfl) (by rfl) aggVote (Blk.newA wr 34 _) hvl (by first | rfl | kernel_rfl) (vtc_one v) ((Below.refl wr.heap.size wr).alloc (Nat.le_refl _) _) (Nat.le_refl _) ?_; intro w6 h6 b6 _; have hz6 := hz.kept b6; have hb6 := Below.then hb b6; have c6 : w6.cell? ⟨wr.heap.size, 0, none⟩ = some (.int .u64 (v.seat : Int)) := (h6.cell 0); have rg6 := h6.range 1 32; rw [vtc_sum] at rg6))
        go_roundw
        case rel => exact ⟨i + 1, by omega, by go_num, hz6, hb6, Lib.hid (by rw [Hhit.out, ← Hq.out]; rfl)⟩
        case measure => simp [intOf]; omega
      · go_wp2_with (first
        | (refine wpList_load_mid (op := ⟨some 14, _, _, _, _, _⟩) (by rfl) 34 (.tmp 13) (by rfl) b2 (off2 + i * 33) (by rfl) (vtc v) _ hr Tryd.underlying34 rfl (by rw [hvl]; kernel_rfl) ?_)
        | ((with_reducible show wpList _ _ _ (⟨none, Op.store _ _ (Operand.tmp 14), _, _, _, _⟩ :: _) _ _); refine wpList_storeA (o := ⟨none, _, _, _, _, _⟩) (by rfl) 34 (.tmp 8) (.tmp 14) (by rfl) wr.heap.size (vtc v) (by rfl) (by rfl) aggVote (Blk.newA wr 34 _) hvl (by first | rfl | kernel_rfl) (vtc_one v) ((Below.refl wr.heap.size wr).alloc (Nat.le_refl _) _) (Nat.le_refl _) ?_; intro w6 h6 b6 _; have hz6 := hz.kept b6; have hb6 := Below.then hb b6; have c6 : w6.cell? ⟨wr.heap.size, 0, none⟩ = some (.int .u64 (v.seat : Int)) := (h6.cell 0); have rg6 := h6.range 1 32; rw [vtc_sum] at rg6)
        | (refine wpList_loadW (o := ⟨some 21, _, _, _, _, _⟩) 25 (.tmp 20) (by rfl) wr.heap.size 1 (by rfl) aggHs hvs rg6 (by rfl) ?_)
        | (refine wpList_loadW (o := ⟨some 22, _, _, _, _, _⟩) 25 (.tmp 5) (by rfl) w.heap.size 0 (by rfl) aggHs hl32 (Blk.all0 hz6) (by rfl) ?_)
        | (refine wpList_eqlG (o := ⟨some 23, _, _, _, _, _⟩) 25 (.tmp 21) (.tmp 22) _ (by rfl) (by rfl) (by rfl) G1.out Q1.out (by rfl) ?_))
        go_roundw
        case rel => exact ⟨i + 1, by omega, by go_num, hz6, hb6, Lib.hid (by rw [Hhit.out, ← Hq.out]; rfl)⟩
        case measure => simp [intOf]; omega
      · go_wp2_with (first
        | (refine wpList_load_mid (op := ⟨some 14, _, _, _, _, _⟩) (by rfl) 34 (.tmp 13) (by rfl) b2 (off2 + i * 33) (by rfl) (vtc v) _ hr Tryd.underlying34 rfl (by rw [hvl]; kernel_rfl) ?_)
        | ((with_reducible show wpList _ _ _ (⟨none, Op.store _ _ (Operand.tmp 14), _, _, _, _⟩ :: _) _ _); refine wpList_storeA (o := ⟨none, _, _, _, _, _⟩) (by rfl) 34 (.tmp 8) (.tmp 14) (by rfl) wr.heap.size (vtc v) (by rfl) (by rfl) aggVote (Blk.newA wr 34 _) hvl (by first | rfl | kernel_rfl) (vtc_one v) ((Below.refl wr.heap.size wr).alloc (Nat.le_refl _) _) (Nat.le_refl _) ?_; intro w6 h6 b6 _; have hz6 := hz.kept b6; have hb6 := Below.then hb b6; have c6 : w6.cell? ⟨wr.heap.size, 0, none⟩ = some (.int .u64 (v.seat : Int)) := (h6.cell 0); have rg6 := h6.range 1 32; rw [vtc_sum] at rg6)
        | (refine wpList_loadW (o := ⟨some 21, _, _, _, _, _⟩) 25 (.tmp 20) (by rfl) wr.heap.size 1 (by rfl) aggHs hvs rg6 (by rfl) ?_)
        | (refine wpList_loadW (o := ⟨some 22, _, _, _, _, _⟩) 25 (.tmp 5) (by rfl) w.heap.size 0 (by rfl) aggHs hl32 (Blk.all0 hz6) (by rfl) ?_)
        | (refine wpList_eqlG (o := ⟨some 23, _, _, _, _, _⟩) 25 (.tmp 21) (.tmp 22) _ (by rfl) (by rfl) (by rfl) G1.out Q1.out (by rfl) ?_))
        go_ret
        exact ⟨by rw [Hfull.out (by rw [Hhit.out, ← Hq.out]; rfl)]; rfl, hb6⟩
    · obtain rfl : i = n := by omega
      have hfin := Hh.out
      rw [List.take_of_length_le (by rw [Hn.out]; exact Nat.le_refl _)] at hfin
      have Hfin := Lib.hid hfin
      clear hfin
      go_wp2_with fail
      go_ret
      exact ⟨by rw [Hfin.out]; rfl, hb⟩
end Go.Proofs.YtffkjjpjfehcnaaDoor
