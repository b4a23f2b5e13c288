/- seats.Tally. -/
import Derived.Test.YtffkjjpjfehcnaaDoorVote4
import Derived.Test.YtffkjjpjfehcnaaDoorVote5
import Derived.Test.YtffkjjpjfehcnaaDoorSeat2
set_option linter.unusedSimpArgs false
set_option linter.unusedVariables false
namespace Go.Proofs.YtffkjjpjfehcnaaDoor
open Go.RowKit
theorem bits_or (a b : Nat) (ha : a < 18446744073709551616) (hb : b < 18446744073709551616) : bits .or .u64 (a : Int) (b : Int) = ((a ||| b : Nat) : Int) := by
  have h1 : (BitVec.ofInt 64 (a : Int)).toNat = a := by rw [BitVec.ofInt_natCast, BitVec.toNat_ofNat]; exact Nat.mod_eq_of_lt (by omega)
  have h2 : (BitVec.ofInt 64 (b : Int)).toNat = b := by rw [BitVec.ofInt_natCast, BitVec.toNat_ofNat]; exact Nat.mod_eq_of_lt (by omega)
  show IntKind.u64.wrap ((BitVec.ofInt 64 (a : Int) ||| BitVec.ofInt 64 (b : Int)).toNat : Int) = _
  rw [BitVec.toNat_or, h1, h2]
  have : a ||| b < 2 ^ 64 := Nat.or_lt_two_pow (by omega) (by omega)
  exact IntWalk.u64_in _ (by omega)
theorem built_vote (x : Nat) (s : List UInt8) (hs : s.length = 32) : Tryd.prog.built 34 [(0, u64v x), (1, .agg (by8 s).toArray)] = some (vtc ⟨x, s, hs⟩).toArray := by
  have e : ∀ parts, Tryd.prog.built 34 parts = Instr.fill (#[((0 : Nat), (1 : Nat)), (1, 32)][·]?) ([u64v 0] ++ by8 (zeroB 32)).toArray parts := fun _ => by kernel_rfl
  rw [e]
  have hl : (by8 s).length = 32 := by rw [by8_len, hs]
  have f1 := fill_lay (#[((0 : Nat), (1 : Nat)), (1, 32)][·]?) 0 0 (u64v x) [u64v x] rfl rfl [] [u64v 0] (by8 (zeroB 32)) rfl rfl [(1, .agg (by8 s).toArray)]
  have f2 := fill_lay (#[((0 : Nat), (1 : Nat)), (1, 32)][·]?) 1 1 (.agg (by8 s).toArray) (by8 s) rfl (by rw [hl]; rfl) [u64v x] (by8 (zeroB 32)) [] rfl (by rw [hl]; rfl) []
  unfold vtc
  simp only [List.cons_append, List.nil_append, List.append_nil] at f1 f2 ⊢
  rw [f1, f2]
  rfl
/-- 'build' behind a guard that holds -/
theorem wpList_buildG {P : Program} {w : World} {ops : Array Oper} {rest : List Oper} {o : Oper} {a : Act} {Q : Exit → Act → World → Prop} (t : TypeId) (ps : List (Nat × Operand)) (ho : o.op = .build t ps.toArray) (L : List (Nat × Value)) (hL : (ps.map fun x => (x.1, a.eval x.2)) = L) (cells : Array Value) (hb : P.built t L = some cells)
    (hw : Region.wanted o (yielded ops a.tmps) = true) (h : wpList P ops Q rest (a.put o.dst (.agg cells)) w) : wpList P ops Q (o :: rest) a w := by
  have hb2 : P.built t (ps.toArray.map fun (i, x) => (i, a.eval x)).toList = some cells := by
    rw [← hb, ← hL]
    congr 1
    simp
  refine wpList_step fun K hK => ?_
  rw [if_pos hw]
  unfold Oper.wp execOp
  simp only [ho, Sem.run_bind, run_build w t _ cells hb2, Result.andThen_ok, Sem.run_pure]
  exact hK _ _ h
set_option maxHeartbeats 2000000 in
set_option maxRecDepth 100000 in
theorem tally_any (a : Option Addr) (n c : Nat) (l : List Nat) (hn : l.length = n) (hs : n ≤ 140737488355328) (hl : ∀ y ∈ l, y < 18446744073709551616) (s : List UInt8) (hsl : s.length = 32) (va : Option Addr) (vn vc : Nat) (V : List Vt) (hvn : V.length = vn) (hvs : vn ≤ 140737488355328) (hV : ∀ v ∈ V, v.Ok)
    (w : World) (h : RowOf u64c 1 w (.slice a n c) l) (hv : RowOf vtc 33 w (.slice va vn vc) V) :
    Calls Tryd.prog 4 #[.slice a n c, .agg (by8 s).toArray, .slice va vn vc] w fun e w' => e = .returned (.int .u64 (tal (fun x => hasV V x s) (l.take 64) : Nat)) ∧ Below w.heap.size w w' := by
  have Hn := Lib.hid hn
  have Hl8 := Lib.hid hl
  have hz0 : Blk 25 (w.alloc (.cells (by8 s).toArray 25)) w.heap.size (by8 s) := Blk.new w _ _
  have hb0 : Below w.heap.size w (w.alloc (.cells (by8 s).toArray 25)) := (Below.refl _ _).alloc (Nat.le_refl _) _
  have hl32 : (by8 s).length = 32 := by rw [by8_len, hsl]
  have cb := book_any va vn vc V hvn hvs hV _ (hv.below hb0)
  have Cb := Lib.hid cb
  clear hn hl cb
  go_enter Tryd.func4, Tryd.ntmps4
  go_wp2_with (go_at_call 11; refine Cb.out.mono ?_; rintro e w1 ⟨B, rfl, hM1, b1⟩; have hz1 := hz0.kept b1; have hb1 := Below.then hb0 b1)
  try simp only [Act.put]
  go_loopw [8, 15] (fun mv ix wr => ∃ i : Nat, i ≤ n ∧ ix = .int .i64 (i : Int) ∧ mv = .int .u64 (tal (fun x => hasV V x s) ((l.take i).take 64) : Nat) ∧ Blk 25 wr w.heap.size (by8 s) ∧ Below w.heap.size w wr ∧ MapV wr B V) (fun _ ix _ => n - (intOf ix).toNat)
  case atStart => exact ⟨0, by omega, rfl, rfl, hz1, hb1, hM1⟩
  case round =>
    clear hz0 hb0 Cb b1 hz1 hb1 hM1
    obtain ⟨i, hi, rfl, rfl, hz, hb, hM⟩ := hrel
    by_cases hlt : i < n
    · have hki : (i : Int) < (n : Int) := by omega
      have hl1 : i < l.length := by rw [Hn.out]; exact hlt
      obtain ⟨b2, off2, rfl, hc⟩ := u64_at (h.below hb) i hl1
      have hx64 : gv l i < 18446744073709551616 := by unfold gv; rw [List.getElem?_eq_getElem hl1]; exact Hl8.out _ (List.getElem_mem _)
      have hnext : l.take (i + 1) = l.take i ++ [gv l i] := by
        rw [List.take_succ_eq_append_getElem hl1]
        unfold gv
        rw [List.getElem?_eq_getElem hl1]; rfl
      generalize gv l i = x at *
      have hli : (l.take i).length = i := by rw [List.length_take]; omega
      by_cases h64 : i < 64
      · have h64i : (i : Int) < 64 := by omega
        have e1 : (l.take i).take 64 = l.take i := List.take_of_length_le (by omega)
        have e2 : (l.take (i + 1)).take 64 = l.take i ++ [x] := by rw [List.take_of_length_le (by rw [hnext, List.length_append, hli]; simp; omega), hnext]
        have hok : (⟨x, s, hsl⟩ : Vt).Ok := ⟨hx64⟩
        obtain ⟨c0, hc1, hc2, k1⟩ := hM.look hok
        change (Instr.lookup 31 (.map (some B)) (.agg (vtc ⟨x, s, hsl⟩).toArray) false).run Tryd.prog wr = _ at k1
        have hbv := built_vote x s hsl
        have hT := tal_lt (fun x => hasV V x s) (l.take i)
        rw [hli] at hT
        have hsn := tal_snoc (fun x => hasV V x s) x (l.take i)
        rw [hli] at hsn
        have hP64 : 2 ^ i < 18446744073709551616 := Nat.lt_of_le_of_lt (Nat.pow_le_pow_right (by omega) (by omega : i ≤ 63)) (by decide)
        rw [e1]
        rw [← e2] at hsn
        obtain ⟨T, hTe⟩ : ∃ T, T = tal (fun x => hasV V x s) (l.take i) := ⟨_, rfl⟩
        rw [← hTe] at hT hsn ⊢
        have hor := bits_or T (2 ^ i) (by omega) hP64
        rw [or_pow T i hT] at hor
        have hshl : IntKind.u64.wrap ((2 : Int) ^ i) = ((2 ^ i : Nat) : Int) := by
          have : (2 : Int) ^ i = ((2 ^ i : Nat) : Int) := by simp
          rw [this]; exact IntWalk.u64_in _ (by omega)
        obtain ⟨Pw, hPw⟩ : ∃ P, P = 2 ^ i := ⟨_, rfl⟩
        rw [← hPw] at hor hshl hsn
        have Hbv := Lib.hid hbv
        have Hsn := Lib.hid hsn
        generalize vtc ⟨x, s, hsl⟩ = VC at *
        clear hnext hl1 e1 e2 hok hbv hT hsn hTe hPw hx64 hP64
        by_cases hc3 : 0 < c0
        · have hcg : (0 : Int) < (c0 : Int) := by omega
          have hin : hasV V x s = true := (hasV_mem hsl).2 (hc2.1 hc3)
          have Hin := Lib.hid hin
          clear hin hc2
          go_wp2_with (first
            | (refine wpList_loadW (o := ⟨some 25, _, _, _, _, _⟩) 25 (.tmp 4) (by rfl) w.heap.size 0 (by rfl) aggHs hl32 (Blk.all0 hz) (by rfl) ?_)
            | (refine wpList_buildG (o := ⟨some 26, _, _, _, _, _⟩) 34 [(0, .tmp 24), (1, .tmp 25)] (by rfl) _ (by rfl) _ Hbv.out (by rfl) ?_))
          go_roundw
          case rel => exact ⟨i + 1, by omega, by go_num, by rw [Hsn.out, if_pos Hin.out, Int.natCast_add], hz, hb, hM⟩
          case measure => simp [intOf]; omega
        · obtain rfl : c0 = 0 := by omega
          have hin : ¬ hasV V x s = true := fun e => hc3 (hc2.2 ((hasV_mem hsl).1 e))
          have Hin := Lib.hid hin
          clear hin hc2
          go_wp2_with (first
            | (refine wpList_loadW (o := ⟨some 25, _, _, _, _, _⟩) 25 (.tmp 4) (by rfl) w.heap.size 0 (by rfl) aggHs hl32 (Blk.all0 hz) (by rfl) ?_)
            | (refine wpList_buildG (o := ⟨some 26, _, _, _, _, _⟩) 34 [(0, .tmp 24), (1, .tmp 25)] (by rfl) _ (by rfl) _ Hbv.out (by rfl) ?_))
          go_roundw
          case rel => exact ⟨i + 1, by omega, by go_num, by rw [Hsn.out, if_neg Hin.out, Nat.add_zero], hz, hb, hM⟩
          case measure => simp [intOf]; omega
      · have h64i : ¬ (i : Int) < 64 := by omega
        have e1 : (l.take (i + 1)).take 64 = (l.take i).take 64 := by rw [List.take_take, List.take_take, Nat.min_eq_left (by omega), Nat.min_eq_left (by omega)]
        have E1 := Lib.hid e1
        clear hnext hl1 e1
        go_wp2_with fail
        go_roundw
        case rel => exact ⟨i + 1, by omega, by go_num, by rw [E1.out], hz, hb, hM⟩
        case measure => simp [intOf]; omega
    · obtain rfl : i = n := by omega
      have e9 : l.take i = l := List.take_of_length_le (by rw [Hn.out]; exact Nat.le_refl _)
      rw [e9]
      go_wp2_with fail
      go_ret
      exact ⟨rfl, hb⟩
end Go.Proofs.YtffkjjpjfehcnaaDoor
