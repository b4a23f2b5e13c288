/- The reference's SamePairs of like ones. -/
import Derived.Test.YtljbbpcnoajfeaaPrs8
import Derived.Test.YtljbbpcnoajfeaaStr
set_option linter.unusedSimpArgs false
set_option linter.unusedVariables false
namespace Go.Proofs.Ytljbbpcnoajfeaa
open Go.RowKit
/-- pairs with their bytes in a world -/
def InQ (w : World) (p : Kvq) : Prop := Bytes w p.kv p.k ∧ Bytes w p.vv p.v
theorem InQ.kept {w w' : World} {p : Kvq} (h : InQ w p) (hb : Below w.heap.size w w') : InQ w' p := ⟨h.1.kept hb, h.2.kept hb⟩
theorem InQ.one {w : World} {p : Kvq} (h : InQ w p) : ∀ u ∈ kvq p, u.oneCell' = true := by
  obtain ⟨_, _, e1, _⟩ := h.1.form
  obtain ⟨_, _, e2, _⟩ := h.2.form
  intro u hu
  unfold kvq at hu
  simp only [List.mem_cons, List.not_mem_nil, or_false] at hu
  rcases hu with rfl | rfl
  · rw [e1]; rfl
  · rw [e2]; rfl
set_option maxHeartbeats 2000000 in
set_option maxRecDepth 100000 in
theorem samepair1_any (x y : Kvq) (hl : qtel x = qtel y) (w : World) (hx : InQ w x) (hy : InQ w y) :
    Calls Try.prog 30 #[.agg (kvq x).toArray, .agg (kvq y).toArray] w fun e w' => e = .returned (.bool true) ∧ Below w.heap.size w w' := by
  obtain ⟨xk, xK, xv, xV⟩ := x
  obtain ⟨yk, yK, yv, yV⟩ := y
  unfold qtel at hl
  simp only [Prod.mk.injEq] at hl
  obtain ⟨rfl, rfl⟩ := hl
  obtain ⟨hx1, hx2⟩ := hx
  obtain ⟨hy1, hy2⟩ := hy
  dsimp only at hx1 hx2 hy1 hy2
  obtain ⟨ka, kc, rfl, _⟩ := hx1.form
  obtain ⟨va, vc, rfl, _⟩ := hx2.form
  obtain ⟨ka', kc', rfl, _⟩ := hy1.form
  obtain ⟨va', vc', rfl, _⟩ := hy2.form
  obtain ⟨kn, hkn⟩ : ∃ n, n = xK.length := ⟨_, rfl⟩
  obtain ⟨vn, hvn⟩ : ∃ n, n = xV.length := ⟨_, rfl⟩
  rw [← hkn] at hx1 hy1 ⊢
  rw [← hvn] at hx2 hy2 ⊢
  obtain ⟨w1, hw1⟩ : ∃ w1, w1 = (w.alloc (.cells #[.slice ka kn kc, .slice va vn vc] 75)).alloc (.cells #[.slice ka' kn kc', .slice va' vn vc'] 75) := ⟨_, rfl⟩
  have z1 : Blk 75 w1 w.heap.size [.slice ka kn kc, .slice va vn vc] := by rw [hw1]; exact (Blk.new w _ _).alloc _
  have z2 : Blk 75 w1 (w.heap.size + 1) [.slice ka' kn kc', .slice va' vn vc'] := by
    have := Blk.new (w.alloc (.cells #[.slice ka kn kc, .slice va vn vc] 75)) 75 [.slice ka' kn kc', .slice va' vn vc']
    simp only [World.size_alloc] at this
    rw [hw1]; exact this
  have hbel : Below w.heap.size w w1 := by rw [hw1]; exact ((Below.refl _ _).alloc (Nat.le_refl _) _).alloc (by simp) _
  have c1 : w1.cell? ⟨w.heap.size, 0, none⟩ = some (.slice ka kn kc) := z1.cell 0
  have c2 : w1.cell? ⟨w.heap.size, 1, none⟩ = some (.slice va vn vc) := z1.cell 1
  have d1 : w1.cell? ⟨w.heap.size + 1, 0, none⟩ = some (.slice ka' kn kc') := z2.cell 0
  have d2 : w1.cell? ⟨w.heap.size + 1, 1, none⟩ = some (.slice va' vn vc') := z2.cell 1
  have s1 := run_str (P := Try.prog) (src := 22) (dst := 9) elU8.ht (by kernel_rfl) (by kernel_rfl) (hx1.below hbel)
  have s2 := run_str (P := Try.prog) (src := 22) (dst := 9) elU8.ht (by kernel_rfl) (by kernel_rfl) (hy1.below hbel)
  have s3 := run_str (P := Try.prog) (src := 22) (dst := 9) elU8.ht (by kernel_rfl) (by kernel_rfl) (hx2.below hbel)
  have s4 := run_str (P := Try.prog) (src := 22) (dst := 9) elU8.ht (by kernel_rfl) (by kernel_rfl) (hy2.below hbel)
  have e1 : (xK == xK) = true := by simp
  have e2 : (xV == xV) = true := by simp
  have HWe := Lib.hid hw1
  clear hw1 z1 z2 hx1 hx2 hy1 hy2 hkn hvn
  show Calls Try.prog 30 #[.agg #[.slice ka kn kc, .slice va vn vc], .agg #[.slice ka' kn kc', .slice va' vn vc']] w _
  go_enter Try.func30, Try.ntmps30
  go_wp2_with (rw [← HWe.out])
  go_ret
  exact ⟨rfl, hbel⟩
set_option maxRecDepth 100000 in
theorem enters_sp1 (args : Array Value) (w : World) : (callFunc 30 args).run Try.prog w = .ok (.enter 30 args) w := enters_of Try.func30 (by kernel_rfl) rfl args w
set_option maxHeartbeats 2000000 in
set_option maxRecDepth 100000 in
theorem eqfpair_any (ka kb : Option Addr) (n kc kd : Nat) (ls ms : List Kvq) (hn : ls.length = n) (hm : ls.map qtel = ms.map qtel) (hN : n ≤ 140737488355328) (w : World) (h1 : RowOf kvq 2 w (.slice ka n kc) ls) (h2 : RowOf kvq 2 w (.slice kb n kd) ms) (i1 : ∀ x ∈ ls, InQ w x) (i2 : ∀ x ∈ ms, InQ w x) :
    Calls Try.prog 29 #[.slice ka n kc, .slice kb n kd, .func (.func 30) #[] #[]] w fun e w' => e = .returned (.bool true) ∧ Below w.heap.size w w' := by
  have hent := enters_sp1
  have hmn : ms.length = n := by have := congrArg List.length hm; simp only [List.length_map] at this; omega
  have htl : ∀ k (h1 : k < ls.length) (h2 : k < ms.length), qtel ls[k] = qtel ms[k] := fun k g1 g2 => by
    have := congrArg (fun l => l[k]?) hm
    simpa [List.getElem?_map, g1, g2] using this
  have Hn := Lib.hid hn
  have Hm := Lib.hid hmn
  have HT := Lib.hid htl
  clear hn hm hmn htl
  go_enter Try.func29, Try.ntmps29
  go_wp2_with fail
  go_loopw [17] (fun ix wr => ∃ i : Nat, i ≤ n ∧ ix = .int .i64 (i : Int) ∧ Below w.heap.size w wr) (fun ix _ => n - (intOf ix).toNat)
  case atStart => exact ⟨0, by omega, rfl, Below.refl _ _⟩
  case round =>
    obtain ⟨i, hii, rfl, hbr⟩ := hrel
    by_cases hlt : i < n
    · have hki : (i : Int) < (n : Int) := by omega
      have hwi : IntKind.i64.wrap ((i : Int) + 1) = ((i + 1 : Nat) : Int) := by rw [IntWalk.i64_in _ (by omega)]; omega
      have hil : i < ls.length := by rw [Hn.out]; exact hlt
      have hil' : i < ms.length := by rw [Hm.out]; exact hlt
      obtain ⟨b1, o1, rfl, r1⟩ := RowOf.range kvq_len (h1.below hbr) i hil
      obtain ⟨b2, o2, rfl, r2⟩ := RowOf.range kvq_len (h2.below hbr) i hil'
      have I1 := i1 _ (List.getElem_mem hil)
      have I2 := i2 _ (List.getElem_mem hil')
      have c1 := fun (u : World) (hu : Below wr.heap.size wr u) => samepair1_any ls[i] ms[i] (HT.out i hil hil') u (I1.kept (Below.then hbr hu)) (I2.kept (Below.then hbr hu))
      have l1 := kvq_len ls[i]
      have l2 := kvq_len ms[i]
      have n1 := I1.one
      have n2 := I2.one
      obtain ⟨K1, hK1⟩ : ∃ K, K = kvq ls[i] := ⟨_, rfl⟩
      obtain ⟨K2, hK2⟩ : ∃ K, K = kvq ms[i] := ⟨_, rfl⟩
      simp only [← hK1] at c1 l1 n1 r1
      simp only [← hK2] at c1 l2 n2 r2
      have C1 := Lib.hid c1
      have L1 := Lib.hid l1
      have L2 := Lib.hid l2
      have N1 := Lib.hid n1
      have N2 := Lib.hid n2
      have R1 := Lib.hid r1
      have R2 := Lib.hid r2
      clear I1 I2 c1 l1 l2 n1 n2 hK1 hK2 r1 r2 hil hil' hlt
      go_wp2_with (first
        | ((with_reducible show wpList _ _ _ (⟨some 21, _, _, _, _, _⟩ :: _) _ _); refine wpList_loadW (o := ⟨some 21, _, _, _, _, _⟩) 75 (.tmp 20) (by rfl) b1 (o1 + i * 2) (by rfl) aggPairQ L1.out R1.out (by rfl) ?_)
        | ((with_reducible show wpList _ _ _ (⟨none, Op.store _ _ (Operand.tmp 21), _, _, _, _⟩ :: _) _ _); refine wpList_storeA (o := ⟨none, _, _, _, _, _⟩) (by rfl) 75 (.tmp 8) (.tmp 21) (by rfl) wr.heap.size K1 (by rfl) (by rfl) aggPairQ (Blk.newA wr 75 _) L1.out (by rfl) N1.out ((Below.refl wr.heap.size wr).alloc (Nat.le_refl _) _) (Nat.le_refl _) ?_; intro w5 h8 b5 _; have r25 := World.rangeAt.below R2.out b5)
        | ((with_reducible show wpList _ _ _ (⟨some 25, _, _, _, _, _⟩ :: _) _ _); refine wpList_loadW (o := ⟨some 25, _, _, _, _, _⟩) 75 (.tmp 24) (by rfl) b2 (o2 + i * 2) (by rfl) aggPairQ L2.out r25 (by rfl) ?_)
        | ((with_reducible show wpList _ _ _ (⟨none, Op.store _ _ (Operand.tmp 25), _, _, _, _⟩ :: _) _ _); refine wpList_storeA (o := ⟨none, _, _, _, _, _⟩) (by rfl) 75 (.tmp 9) (.tmp 25) (by rfl) w5.heap.size K2 (by rfl) (by rfl) aggPairQ (Blk.newA w5 75 _) L2.out (by rfl) N2.out ((Below.refl w5.heap.size w5).alloc (Nat.le_refl _) _) (Nat.le_refl _) ?_; intro w6 h9 b6 _; have h86 := h8.kept b6; have b56 := Below.then b5 b6)
        | ((with_reducible show wpList _ _ _ (⟨some 27, _, _, _, _, _⟩ :: _) _ _); refine wpList_loadA (o := ⟨some 27, _, _, _, _, _⟩) (by rfl) 75 (.tmp 8) (by rfl) wr.heap.size (by rfl) aggPairQ h86 L1.out ?_)
        | ((with_reducible show wpList _ _ _ (⟨some 28, _, _, _, _, _⟩ :: _) _ _); refine wpList_loadA (o := ⟨some 28, _, _, _, _, _⟩) (by rfl) 75 (.tmp 9) (by rfl) w5.heap.size (by rfl) aggPairQ h9 L2.out ?_)
        | (go_at_call 30; (with_reducible refine (C1.out _ b56).mono ?_); rintro e w7 ⟨rfl, b7⟩; have bb7 := Below.then hbr (Below.then b56 b7)))
      go_roundw
      case rel => exact ⟨i + 1, by omega, by go_num, bb7⟩
      case measure => simp [intOf]; omega
    · obtain rfl : i = n := by omega
      go_wp2_with fail
      go_ret
      exact ⟨rfl, hbr⟩
set_option maxHeartbeats 1000000 in
set_option maxRecDepth 100000 in
theorem samepairs_any (v u : Value) (ls ms : List Kvq) (hm : ls.map qtel = ms.map qtel) (hN : ls.length ≤ 140737488355328) (w : World) (h1 : RowOf kvq 2 w v ls) (h2 : RowOf kvq 2 w u ms) (i1 : ∀ x ∈ ls, InQ w x) (i2 : ∀ x ∈ ms, InQ w x) :
    Calls Try.prog 9 #[v, u] w fun e w' => e = .returned (.bool true) ∧ Below w.heap.size w w' := by
  have hmn : ms.length = ls.length := by have := congrArg List.length hm; simp only [List.length_map] at this; omega
  obtain ⟨ka, kc, rfl, _⟩ := h1.form
  obtain ⟨kb, kd, rfl, _⟩ := h2.form
  rw [hmn] at h2 ⊢
  have c := Lib.hid (eqfpair_any ka kb ls.length kc kd ls ms rfl hm hN w h1 h2 i1 i2)
  obtain ⟨n, hn⟩ : ∃ n, n = ls.length := ⟨_, rfl⟩
  rw [← hn] at c ⊢
  clear hm hN h1 h2 i1 i2 hmn hn
  go_enter Try.func9, Try.ntmps9
  go_wp2_with (go_at_call 29; (with_reducible refine c.out.mono ?_); rintro e w2 ⟨rfl, b2⟩)
  go_ret
  exact ⟨rfl, b2⟩
end Go.Proofs.Ytljbbpcnoajfeaa
