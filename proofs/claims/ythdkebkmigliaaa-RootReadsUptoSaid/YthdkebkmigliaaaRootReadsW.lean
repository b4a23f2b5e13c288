/- The walk of the law RootReads. -/
import Derived.Test.YthdkebkmigliaaaRRead10
import Derived.Test.YthdkebkmigliaaaRRead2
set_option linter.unusedSimpArgs false
set_option linter.unusedVariables false
namespace Go.Proofs.Ythdkebkmigliaaa
open Go.RowKit
/-- root.Read -/
theorem rread_any (a : Option Addr) (L c : Nat) (b : List UInt8) (hL : b.length = L) (hLs : L ≤ 1048576) (w : World) (h : Bytes w (.slice a L c) b) : Calls Try.prog 15 #[.slice a L c] w (RdPost (rdB b) w) := by
  cases hd : dec b with
  | none =>
    have hr : rdB b = none := by unfold rdB; rw [hd]
    rw [hr]
    exact read_no a L c b hL hLs hd w h
  | some p =>
    cases hs : shpP p with
    | none =>
      have hr : rdB b = none := by unfold rdB; rw [hd]; dsimp only; rw [hs]
      rw [hr]
      exact read_odd a L c b hL hLs p hd hs w h
    | some s =>
      have hr : rdB b = if okQ s = true then some s else none := by unfold rdB; rw [hd]; dsimp only; rw [hs]
      rw [hr]
      cases ho : okQ s with
      | false => exact read_bad a L c b hL hLs p s hd hs ho w h
      | true => exact read_yes a L c b hL hLs p s hd hs ho w h
theorem rd_le {b : List UInt8} {s : Shq} (h : rdB b = some s) (hb : b.length ≤ 1048576) : okQ s = true ∧ s.2.1.length ≤ 4194304 ∧ s.2.2.1.length ≤ 1048576 ∧ s.2.2.2.length ≤ 1048576 ∧ ∀ t ∈ s.2.2.2, t.length ≤ 1048576 := by
  unfold rdB at h
  cases hd : dec b with
  | none => rw [hd] at h; simp at h
  | some p =>
    rw [hd] at h
    dsimp only at h
    cases hs : shpP p with
    | none => rw [hs] at h; simp at h
    | some s2 =>
      rw [hs] at h
      dsimp only at h
      split at h
      · rename_i ho
        simp only [Option.some.injEq] at h
        subst h
        exact ⟨ho, shp_le hs (by rw [← dec_back hd]; exact hb)⟩
      · simp at h
/-- what is handed back, in one form -/
def RdForm (s : Shq) (E : Int) (w : World) (e : Ending) (w' : World) : Prop :=
  ∃ (pa : Option Addr) (pc : Nat) (va : Option Addr) (vc : Nat) (ka : Option Addr) (kc : Nat) (ps : List (Value × List UInt8)), e = .returned (.tuple #[.agg #[.int .i64 s.1, .slice pa s.2.1.length pc, .slice va s.2.2.1.length vc, .slice ka s.2.2.2.length kc], .int .i64 E]) ∧
      Below w.heap.size w w' ∧ Bytes w' (.slice pa s.2.1.length pc) s.2.1 ∧ Bytes w' (.slice va s.2.2.1.length vc) s.2.2.1 ∧ Texts w' (.slice ka s.2.2.2.length kc) ps ∧ ps.map (·.2) = s.2.2.2
theorem rd_form {o : Option Shq} {w : World} {e : Ending} {w' : World} (h : RdPost o w e w') : RdForm (o.getD (0, [], [], [])) (if o.isSome then 0 else 1) w e w' := by
  obtain ⟨hb, h⟩ := h
  cases o with
  | none => exact ⟨none, 0, none, 0, none, 0, [], h, hb, RowOf.nil _ 1 w', RowOf.nil _ 1 w', ⟨RowOf.nil tcell 1 w', by simp⟩, rfl⟩
  | some s =>
    obtain ⟨pa, pc, va, vc, ka, kc, ps, h1, h2, h3, h4, h5⟩ := h
    exact ⟨pa, pc, va, vc, ka, kc, ps, h1, hb, h2, h3, h4, h5⟩
theorem rd_len {b : List UInt8} (hb : b.length ≤ 1048576) : ((rdB b).getD (0, [], [], [])).2.2.2.length ≤ 1048576 := by
  cases h : rdB b with
  | none => simp
  | some s => exact (rd_le h hb).2.2.2.1
set_option maxHeartbeats 1000000 in
set_option maxRecDepth 100000 in
theorem rootReads_walk (a : Option Addr) (c : Nat) (b : List UInt8) (w : World) (h : Bytes w (.slice a b.length c) b) (hLs : b.length ≤ 1048576) :
    Calls Try.prog 3 #[.slice a b.length c] w fun e w' => e = .returned (.bool true) ∧ Below w.heap.size w w' := by
  have c1 := fun u (hu : Bytes u (.slice a b.length c) b) => (rread_any a b.length c b rfl hLs u hu).mono (fun _ _ q => rd_form q)
  have c2 := fun u (hu : Bytes u (.slice a b.length c) b) => (hread_any a b.length c b rfl hLs u hu).mono (fun _ _ q => rd_form q)
  have hn := rd_len hLs
  obtain ⟨L, hL⟩ : ∃ L, L = b.length := ⟨_, rfl⟩
  simp only [← hL] at c1 c2 h ⊢
  generalize (if (rdB b).isSome then (0 : Int) else 1) = E at *
  generalize (rdB b).getD (0, [], [], []) = s at *
  obtain ⟨kd, p, v, ts⟩ := s
  unfold RdForm at c1 c2
  dsimp only at c1 c2 hn
  have C1 := Lib.hid c1
  have C2 := Lib.hid c2
  clear c1 c2 hL
  go_enter Try.func3, Try.ntmps3
  go_wp2_with (first
    | (go_at_call 15; (with_reducible refine (C1.out _ h).mono ?_); rintro e w1 ⟨pa, pc, va, vc, ka, kc, ps, rfl, b1, hp, hv, hk, hps⟩; have bA : Below w1.heap.size w1 (w1.alloc (.cells #[.int .i64 0, .slice none 0 0, .slice none 0 0, .slice none 0 0] 25)) := (Below.refl _ _).alloc (Nat.le_refl _) _)
    | ((with_reducible show wpList _ _ _ (⟨none, Op.store _ _ (Operand.tmp 10), _, _, _, _⟩ :: _) _ _); refine wpList_storeA (o := ⟨none, _, _, _, _, _⟩) (by rfl) 25 (.tmp 3) (.tmp 10) (by rfl) w1.heap.size [.int .i64 kd, .slice pa p.length pc, .slice va v.length vc, .slice ka ts.length kc] (by rfl) (by rfl) aggShape (Blk.new w1 25 zsh) (by rfl) (by rfl) (by intro u hu; simp at hu; rcases hu with rfl | rfl | rfl | rfl <;> rfl) bA (Nat.le_refl _) ?_; intro w2 h3 b2 _; have b12 := Below.then b1 b2)
    | (go_at_call 16; (with_reducible refine (C2.out _ (h.below b12)).mono ?_); rintro e w3 ⟨pa', pc', va', vc', ka', kc', qs, rfl, b3, hp', hv', hk', hqs⟩; have h33 := h3.kept b3; have b13 := Below.then b12 b3; have b23 := Below.then b2 b3; have bB : Below w3.heap.size w3 (w3.alloc (.cells #[.int .i64 0, .slice none 0 0, .slice none 0 0, .slice none 0 0] 25)) := (Below.refl _ _).alloc (Nat.le_refl _) _)
    | ((with_reducible show wpList _ _ _ (⟨none, Op.store _ _ (Operand.tmp 15), _, _, _, _⟩ :: _) _ _); refine wpList_storeA (o := ⟨none, _, _, _, _, _⟩) (by rfl) 25 (.tmp 5) (.tmp 15) (by rfl) w3.heap.size [.int .i64 kd, .slice pa' p.length pc', .slice va' v.length vc', .slice ka' ts.length kc'] (by rfl) (by rfl) aggShape (Blk.new w3 25 zsh) (by rfl) (by rfl) (by intro u hu; simp at hu; rcases hu with rfl | rfl | rfl | rfl <;> rfl) bB (Nat.le_refl _) ?_; intro w4 h6 b4 _; have b14 := Below.then b13 b4; have h34 := h33.kept b4; have r3 := h34.range0; have r6 := h6.range0; have b24 := Below.then b23 b4; have same := sameShape_any kd pa pa' va va' ka ka' p.length pc pc' v.length vc vc' ts.length kc kc' p v ps qs (by rw [← hps, List.length_map]) (by rw [← hqs, List.length_map]) hn w4 (hp.below b24) (hp'.below b4) (hv.below b24) (hv'.below b4) (hk.below b24) (hk'.below b4) (hps.trans hqs.symm))
    | (refine wpList_loadW (o := ⟨some 21, _, _, _, _, _⟩) 25 (.tmp 3) (by rfl) w1.heap.size 0 (by rfl) aggShape (by rfl) r3 (by rfl) ?_)
    | (refine wpList_loadW (o := ⟨some 22, _, _, _, _, _⟩) 25 (.tmp 5) (by rfl) w3.heap.size 0 (by rfl) aggShape (by rfl) r6 (by rfl) ?_)
    | (go_at_call 17; refine same.mono ?_; rintro e w5 ⟨rfl, b5⟩; have b15 := Below.then b14 b5))
  go_ret
  exact ⟨rfl, b15⟩
end Go.Proofs.Ythdkebkmigliaaa
