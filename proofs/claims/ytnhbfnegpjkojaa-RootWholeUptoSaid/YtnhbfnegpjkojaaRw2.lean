/- The reference's treeCodes: a leaf. -/
import Derived.Test.YtnhbfnegpjkojaaRw1
import Derived.Test.YtnhbfnegpjkojaaRootO
import Derived.Test.YtnhbfnegpjkojaaNode5
set_option linter.unusedSimpArgs false
set_option linter.unusedVariables false
namespace Go.Proofs.Ytnhbfnegpjkojaa
open Go.RowKit
theorem RowOf.offT {α : Type} {f : α → List Value} {size : Nat} {w w' : World} {v : Value} {g : Nat} {l : List α} (h : RowOf f size w v l) (hg : w.grownBy w' (some g)) (hne : ∀ x, v.ownBlock = some x → x ≠ g) : RowOf f size w' v l := by
  obtain ⟨a, c, rfl, _⟩ := h.form
  cases a with
  | none =>
    obtain ⟨h0, a, c', hv, h1, h2, h3⟩ := h
    simp only [Value.slice.injEq] at hv
    obtain ⟨rfl, _, rfl⟩ := hv
    refine ⟨h0, none, _, rfl, h1, h2, .inl ?_⟩
    rcases h3 with h3 | ⟨_, _, _, he, _⟩
    · exact h3
    · simp at he
  | some p =>
    obtain ⟨b, off, s⟩ := p
    exact h.grownNe hg (hne b rfl)
/-- what the codes of a tree are: an own row of texts that the call made -/
def TcPost (B : List (List UInt8)) (w : World) (e : Ending) (w' : World) : Prop := ∃ v ps, e = .returned v ∧ OwnOf tcell 1 22 w' w.heap.size v ps ∧
  (∀ q ∈ ps, Bytes w' q.1 q.2 ∧ q.2.length ≤ 1000000000 ∧ ∀ k, q.1.ownBlock = some k → w.heap.size ≤ k ∧ k < w'.heap.size ∧ v.ownBlock ≠ some k) ∧ ps.map (·.2) = B ∧ Below w.heap.size w w'
set_option maxHeartbeats 2000000 in
set_option maxRecDepth 100000 in
theorem tc_leaf (pa va ka : Option Addr) (pn pc vn vc kn kc : Nat) (p v : List UInt8) (ks : List Nd) (pv vv kv : Value) (hpn : p.length = pn) (hvn : v.length = vn) (w : World) (hp : Bytes w (.slice pa pn pc) p) (hv : Bytes w (.slice va vn vc) v) (hP : pn ≤ 4194304) (hV : vn ≤ 1048576) :
    Calls Try.prog 55 #[.agg #[.int .i64 1, .slice pa pn pc, .slice va vn vc, .slice ka kn kc]] w (TcPost (alN (.mk 1 pv p vv v kv ks)) w) := by
  obtain ⟨w2, hw2⟩ : ∃ w2, w2 = (w.alloc (.cells #[.int .i64 1, .slice pa pn pc, .slice va vn vc, .slice ka kn kc] 25)).alloc (.cells #[.int .i64 0, .slice none 0 0, .slice none 0 0, .slice none 0 0] 190) := ⟨_, rfl⟩
  have z1 : Blk 25 w2 w.heap.size [.int .i64 1, .slice pa pn pc, .slice va vn vc, .slice ka kn kc] := by rw [hw2]; exact (Blk.new w _ _).alloc _
  have z2 : Blk 190 w2 (w.heap.size + 1) [.int .i64 0, .slice none 0 0, .slice none 0 0, .slice none 0 0] := by
    have := Blk.new (w.alloc (.cells #[.int .i64 1, .slice pa pn pc, .slice va vn vc, .slice ka kn kc] 25)) 190 [.int .i64 0, .slice none 0 0, .slice none 0 0, .slice none 0 0]
    simp only [World.size_alloc] at this
    rw [hw2]; exact this
  have hbel : Below w.heap.size w w2 := by rw [hw2]; exact ((Below.refl _ _).alloc (Nat.le_refl _) _).alloc (by simp) _
  have ci := fun x (hb : Below w.heap.size w x) => hcode_own 1 pa va none pn pc vn vc 0 0 p v [] hpn hvn rfl x (hp.below hb) (hv.below hb) ⟨RowOf.nil tcell 1 x, fun q hq => absurd hq (by simp)⟩ hP hV (by omega) (fun q hq => absurd hq (by simp))
  have hcd : cdN (.mk 1 pv p vv v kv ks) = if shOk 1 p v [] = true then shB 1 p v [] else [] := by rw [cdN, if_pos rfl]
  have hal : alN (.mk 1 pv p vv v kv ks) = [cdN (.mk 1 pv p vv v kv ks)] := by rw [alN, if_pos rfl]
  rw [hal, hcd]
  obtain ⟨CB, hCB⟩ : ∃ B, B = if shOk 1 p v [] = true then shB 1 p v [] else [] := ⟨_, rfl⟩
  rw [← hCB]
  obtain ⟨er', her⟩ : ∃ x : Int, x = if shOk 1 p v [] = true then 0 else 1 := ⟨_, rfl⟩
  have Ci : Hid (∀ x, Below w.heap.size w x → Calls Try.prog 118 #[.agg #[.int .i64 1, .slice pa pn pc, .slice va vn vc, .slice none 0 0]] x fun e w' => ∃ cv, e = .returned (.tuple #[cv, .int .i64 er']) ∧ Bytes w' cv CB ∧ (∀ k, cv.ownBlock = some k → x.heap.size ≤ k ∧ k < w'.heap.size) ∧ Below x.heap.size x w' ∧ CB.length ≤ 1000000000) := Lib.hid fun x hb => by rw [hCB, her]; exact ci x hb
  have c0 := z1.cell 0
  have c1 := z1.cell 1
  have c2 := z1.cell 2
  have Hw2 := Lib.hid hw2
  have Hbel := Lib.hid hbel
  clear hw2 hbel ci hcd hal hCB her hpn hvn hp hv
  go_enter Try.func55, Try.ntmps55
  go_wp2_with (first
    | (rw [← Hw2.out]; have c0 : w2.cell? ⟨w.heap.size, 0, none⟩ = some (.int .i64 1) := c0; have c1 : w2.cell? ⟨w.heap.size, 1, none⟩ = some (.slice pa pn pc) := c1; have c2 : w2.cell? ⟨w.heap.size, 2, none⟩ = some (.slice va vn vc) := c2)
    | ((with_reducible show wpList _ _ _ (⟨none, Op.store _ _ (Operand.tmp 21), _, _, _, _⟩ :: _) _ _); refine wpList_storeA (o := ⟨none, _, _, _, _, _⟩) (by rfl) 190 (.tmp 3) (.tmp 21) (by rfl) (w.heap.size + 1) [.int .i64 1, .slice pa pn pc, .slice va vn vc, .slice none 0 0] (by rfl) (by rfl) aggShape z2 (by rfl) (by rfl) (by intro u hu; simp at hu; rcases hu with rfl | rfl | rfl | rfl <;> rfl) Hbel.out (by omega) ?_; intro w3 y3 hbel3 _)
    | ((with_reducible show wpList _ _ _ (⟨some 64, _, _, _, _, _⟩ :: _) _ _); refine wpList_loadA (o := ⟨some 64, _, _, _, _, _⟩) (by rfl) 190 (.tmp 3) (by rfl) (w.heap.size + 1) (by rfl) aggShape y3 (by rfl) ?_)
    | (go_at_call 118; refine (Ci.out _ hbel3).mono ?_; rintro e w4 ⟨cv, rfl, hc, fc, b4, lc⟩; obtain ⟨ca, cc, rfl, _⟩ := hc.form; have hbel4 := Below.then hbel3 b4)
    | ((with_reducible show wpList _ _ _ (⟨some 69, _, _, _, _, _⟩ :: _) _ _); refine wpList_buildW (o := ⟨some 69, _, _, _, _, _⟩) (by rfl) 26 1 [(0, .tmp 68)] (by rfl) elText [(.slice ca CB.length cc, CB)] [.slice ca CB.length cc] (by rfl) (by rfl) (by rfl) (by omega) (by omega) ?_; intro w5 y5 _ b5; have hbel5 := Below.then hbel4 b5; have o5 := Blk.own (f := tcell) (size := 1) (l := [(Value.slice ca CB.length cc, CB)]) (B := w.heap.size) y5 1 (fun _ => rfl) rfl hbel4.size (by unfold maxLen; omega); have hc := hc.kept b5)
    | ((with_reducible show wpList _ _ _ (⟨some 71, _, _, _, _, _⟩ :: _) _ _); refine wpList_appB (o := ⟨some 71, _, _, _, _, _⟩) (by rfl) (.tmp 69) (.tmp 70) 26 (by rfl) elText (m := []) (by simp) (by rfl) o5 (by rfl) (RowOf.nil tcell 1 _) (by have := hbel5.size; omega) (by simp) (by simp; unfold maxLen; omega) ?_; intro v6 w6 o6 g6 p6))
  go_ret
  have hcl : ∀ k, (Value.slice ca CB.length cc).ownBlock = some k → k < w4.heap.size := fun k hk => (fc k hk).2
  refine ⟨v6, [(.slice ca CB.length cc, CB)], rfl, by simpa using o6, fun q hq => ?_, rfl, ?_⟩
  · rw [List.mem_singleton] at hq
    subst hq
    refine ⟨RowOf.offT hc g6 (fun x hx => Nat.ne_of_lt (hcl x hx)), lc, fun k hk => ⟨Nat.le_trans hbel3.size (fc k hk).1, Nat.lt_of_lt_of_le (hcl k hk) (Nat.le_trans b5.size g6.size), fun e => ?_⟩⟩
    have h1 := hcl k hk
    rcases p6 k e with h | h
    · simp only [Value.ownBlock, Option.some.injEq] at h; omega
    · have := b5.size; omega
  · exact hbel5.grown g6 hbel5.size (fun k hk => by simp only [Value.ownBlock, Option.some.injEq] at hk; have := hbel4.size; omega)
end Go.Proofs.Ytnhbfnegpjkojaa
