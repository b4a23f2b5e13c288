/- The reference's SameLogs and SameFound of like ones. -/
import Derived.Test.YtljbbpcnoajfeaaSf14
import Derived.Test.YtljbbpcnoajfeaaSf7
set_option linter.unusedSimpArgs false
set_option linter.unusedVariables false
namespace Go.Proofs.Ytljbbpcnoajfeaa
open Go.RowKit
set_option maxRecDepth 100000 in
theorem enters_sl1 (args : Array Value) (w : World) : (callFunc 59 args).run Try.prog w = .ok (.enter 59 args) w := enters_of Try.func59 (by kernel_rfl) rfl args w
set_option maxHeartbeats 2000000 in
set_option maxRecDepth 100000 in
theorem eqflog_any (ka kb : Option Addr) (n kc kd : Nat) (ls ms : List Lgv) (hn : ls.length = n) (hm : ms.length = n) (hN : n ≤ 140737488355328) (hL : ∀ j (h1 : j < ls.length) (h2 : j < ms.length), ls[j].Like ms[j]) (hO : ∀ l ∈ ls, l.Ok) (w : World) (h1 : Logs w (.slice ka n kc) ls) (h2 : Logs w (.slice kb n kd) ms) :
    Calls Try.prog 58 #[.slice ka n kc, .slice kb n kd, .func (.func 59) #[] #[]] w fun e w' => e = .returned (.bool true) ∧ Below w.heap.size w w' := by
  have hent := enters_sl1
  have Hn := Lib.hid hn
  have Hm := Lib.hid hm
  clear hn hm
  go_enter Try.func58, Try.ntmps58
  go_wp2_with fail
  go_loopw [17] (fun ix wr => ∃ i : Nat, i ≤ n ∧ ix = .int .i64 (i : Int) ∧ Below w.heap.size w wr) (fun ix _ => n - (intOf ix).toNat)
  case atStart => exact ⟨0, by omega, rfl, Below.refl _ _⟩
  case round =>
    obtain ⟨i, hii, rfl, hbr⟩ := hrel
    by_cases hlt : i < n
    · have hki : (i : Int) < (n : Int) := by omega
      have hwi : IntKind.i64.wrap ((i : Int) + 1) = ((i + 1 : Nat) : Int) := by rw [IntWalk.i64_in _ (by omega)]; omega
      have hil : i < ls.length := by rw [Hn.out]; exact hlt
      have hil' : i < ms.length := by rw [Hm.out]; exact hlt
      obtain ⟨b1, o1, rfl, r1⟩ := RowOf.range lgc_len (h1.1.below hbr) i hil
      obtain ⟨b2, o2, rfl, r2⟩ := RowOf.range lgc_len (h2.1.below hbr) i hil'
      have I1 := h1.2 _ (List.getElem_mem hil)
      have I2 := h2.2 _ (List.getElem_mem hil')
      have c1 := fun (u : World) (hu : Below wr.heap.size wr u) => samelog1_any ls[i] ms[i] (hL i hil hil') (hO _ (List.getElem_mem hil)) u (I1.kept (Below.then hbr hu)) (I2.kept (Below.then hbr hu))
      have l1 := lgc_len ls[i]
      have l2 := lgc_len ms[i]
      have n1 : ∀ u ∈ lgc ls[i], u.oneCell' = true := by
        obtain ⟨_, _, e1, _⟩ := I1.ht.form
        obtain ⟨_, _, e2, _⟩ := I1.hd.form
        exact lgc_one _ (by rw [e1]; rfl) (by rw [e2]; rfl)
      have n2 : ∀ u ∈ lgc ms[i], u.oneCell' = true := by
        obtain ⟨_, _, e1, _⟩ := I2.ht.form
        obtain ⟨_, _, e2, _⟩ := I2.hd.form
        exact lgc_one _ (by rw [e1]; rfl) (by rw [e2]; rfl)
      obtain ⟨K1, hK1⟩ : ∃ K, K = lgc ls[i] := ⟨_, rfl⟩
      obtain ⟨K2, hK2⟩ : ∃ K, K = lgc ms[i] := ⟨_, rfl⟩
      simp only [← hK1] at c1 l1 n1 r1
      simp only [← hK2] at c1 l2 n2 r2
      have C1 := Lib.hid c1
      have L1 := Lib.hid l1
      have L2 := Lib.hid l2
      have N1 := Lib.hid n1
      have N2 := Lib.hid n2
      have R1 := Lib.hid r1
      have R2 := Lib.hid r2
      clear I1 I2 c1 l1 l2 n1 n2 hK1 hK2 r1 r2 hil hil' hlt
      go_wp2_with (first
        | ((with_reducible show wpList _ _ _ (⟨some 21, _, _, _, _, _⟩ :: _) _ _); refine wpList_loadW (o := ⟨some 21, _, _, _, _, _⟩) 84 (.tmp 20) (by rfl) b1 (o1 + i * 10) (by rfl) aggLog L1.out R1.out (by rfl) ?_)
        | ((with_reducible show wpList _ _ _ (⟨none, Op.store _ _ (Operand.tmp 21), _, _, _, _⟩ :: _) _ _); refine wpList_storeA (o := ⟨none, _, _, _, _, _⟩) (by rfl) 84 (.tmp 8) (.tmp 21) (by rfl) wr.heap.size K1 (by rfl) (by rfl) aggLog (Blk.newA wr 84 _) L1.out (by rfl) N1.out ((Below.refl wr.heap.size wr).alloc (Nat.le_refl _) _) (Nat.le_refl _) ?_; intro w5 h8 b5 _; have r25 := World.rangeAt.below R2.out b5)
        | ((with_reducible show wpList _ _ _ (⟨some 25, _, _, _, _, _⟩ :: _) _ _); refine wpList_loadW (o := ⟨some 25, _, _, _, _, _⟩) 84 (.tmp 24) (by rfl) b2 (o2 + i * 10) (by rfl) aggLog L2.out r25 (by rfl) ?_)
        | ((with_reducible show wpList _ _ _ (⟨none, Op.store _ _ (Operand.tmp 25), _, _, _, _⟩ :: _) _ _); refine wpList_storeA (o := ⟨none, _, _, _, _, _⟩) (by rfl) 84 (.tmp 9) (.tmp 25) (by rfl) w5.heap.size K2 (by rfl) (by rfl) aggLog (Blk.newA w5 84 _) L2.out (by rfl) N2.out ((Below.refl w5.heap.size w5).alloc (Nat.le_refl _) _) (Nat.le_refl _) ?_; intro w6 h9 b6 _; have h86 := h8.kept b6; have b56 := Below.then b5 b6)
        | ((with_reducible show wpList _ _ _ (⟨some 27, _, _, _, _, _⟩ :: _) _ _); refine wpList_loadA (o := ⟨some 27, _, _, _, _, _⟩) (by rfl) 84 (.tmp 8) (by rfl) wr.heap.size (by rfl) aggLog h86 L1.out ?_)
        | ((with_reducible show wpList _ _ _ (⟨some 28, _, _, _, _, _⟩ :: _) _ _); refine wpList_loadA (o := ⟨some 28, _, _, _, _, _⟩) (by rfl) 84 (.tmp 9) (by rfl) w5.heap.size (by rfl) aggLog h9 L2.out ?_)
        | (go_at_call 59; (with_reducible refine (C1.out _ b56).mono ?_); rintro e w7 ⟨rfl, b7⟩; have bb7 := Below.then hbr (Below.then b56 b7)))
      go_roundw
      case rel => exact ⟨i + 1, by omega, by go_num, bb7⟩
      case measure => simp [intOf]; omega
    · obtain rfl : i = n := by omega
      go_wp2_with fail
      go_ret
      exact ⟨rfl, hbr⟩
set_option maxHeartbeats 2000000 in
set_option maxRecDepth 100000 in
theorem samelogs_any (ka kb : Option Addr) (n kc kd : Nat) (ls ms : List Lgv) (hn : ls.length = n) (hm : ms.length = n) (hN : n ≤ 140737488355328) (hL : ∀ j (h1 : j < ls.length) (h2 : j < ms.length), ls[j].Like ms[j]) (hO : ∀ l ∈ ls, l.Ok) (w : World) (h1 : Logs w (.slice ka n kc) ls) (h2 : Logs w (.slice kb n kd) ms) :
    Calls Try.prog 31 #[.slice ka n kc, .slice kb n kd] w fun e w' => e = .returned (.bool true) ∧ Below w.heap.size w w' := by
  have c := Lib.hid (eqflog_any ka kb n kc kd ls ms hn hm hN hL hO w h1 h2)
  clear hn hm hN hL hO h1 h2
  go_enter Try.func31, Try.ntmps31
  go_wp2_with (go_at_call 58; (with_reducible refine c.out.mono ?_); rintro e w2 ⟨rfl, b2⟩)
  go_ret
  exact ⟨rfl, b2⟩
end Go.Proofs.Ytljbbpcnoajfeaa
