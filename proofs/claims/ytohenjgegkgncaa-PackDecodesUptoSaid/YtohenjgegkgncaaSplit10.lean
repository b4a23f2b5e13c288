/- pack.Split. -/
import Derived.Test.YtohenjgegkgncaaSplit9
set_option linter.unusedSimpArgs false
set_option linter.unusedVariables false
namespace Go.Proofs.Ytohenjgegkgncaa
open Go.RowKit
/-- what splitting answers -/
def SplitPost (o : Option (Pit × List UInt8)) (L : Nat) (w : World) (e : Ending) (w' : World) : Prop :=
  match o with
  | none => e = .returned (.tuple #[.agg #[.bool false, .slice none 0 0, .slice none 0 0], .int .i64 0, .int .i64 1]) ∧ Below w.heap.size w w'
  | some (p, r) => ∃ it, e = .returned (.tuple #[.agg (icells it).toArray, .int .i64 ((L - r.length : Nat) : Int), .int .i64 0]) ∧ Below w.heap.size w w' ∧ Fp (fun x => w.heap.size ≤ x) w' it ∧ erI it = p ∧ BareI it
theorem SplitPost_none (L : Nat) (w : World) : SplitPost none L w = fun e w' => e = .returned (.tuple #[.agg #[.bool false, .slice none 0 0, .slice none 0 0], .int .i64 0, .int .i64 1]) ∧ Below w.heap.size w w' := rfl
theorem SplitPost_some (p : Pit) (r : List UInt8) (L : Nat) (w : World) : SplitPost (some (p, r)) L w = fun e w' => ∃ it, e = .returned (.tuple #[.agg (icells it).toArray, .int .i64 ((L - r.length : Nat) : Int), .int .i64 0]) ∧ Below w.heap.size w w' ∧ Fp (fun x => w.heap.size ≤ x) w' it ∧ erI it = p ∧ BareI it := rfl
set_option maxHeartbeats 1000000 in
set_option maxRecDepth 100000 in
theorem split_any (n : Nat) (a : Option Addr) (L c : Nat) (b : List UInt8) (hL : b.length = L) (hn : L ≤ n) (hLs : L ≤ 1048576) (w : World) (h : Bytes w (.slice a L c) b) :
    Calls Try.prog 15 #[.slice a L c] w (SplitPost (par n b) L w) := by
  have hmf : ∀ (fn : Fn) (first cap : Array Value) (w : World), (Instr.makeFunc fn first cap).run Try.prog w = .ok (.func fn first cap) w := fun _ _ _ _ => rfl
  have hc := fun (g : Nat) (u : World) (hB : Blk 113 u g [.slice a L c]) (hb : Bytes u (.slice a L c) b) => item_any n b (by omega) (by omega) a L c g u hL hB hb
  have HL := Lib.hid hL
  clear hL
  obtain ⟨w1, hw1⟩ : ∃ w1, w1 = ((w.alloc (.cells #[.bool false, .slice none 0 0, .slice none 0 0] 25)).alloc (.cells #[.int .i64 0] 3)).alloc (.cells #[.int .i64 0] 26) := ⟨_, rfl⟩
  have h2 : Blk 25 w1 w.heap.size [.bool false, .slice none 0 0, .slice none 0 0] := by rw [hw1]; exact ((Blk.new w 25 [.bool false, .slice none 0 0, .slice none 0 0]).alloc _).alloc _
  have h3 : Blk 3 w1 (w.heap.size + 1) [.int .i64 0] := by
    have := (Blk.new (w.alloc (.cells #[.bool false, .slice none 0 0, .slice none 0 0] 25)) 3 [.int .i64 0]).alloc (.cells #[.int .i64 0] 26)
    rw [hw1]; simpa using this
  have h4 : Blk 26 w1 (w.heap.size + 1 + 1) [.int .i64 0] := by
    have := Blk.new ((w.alloc (.cells #[.bool false, .slice none 0 0, .slice none 0 0] 25)).alloc (.cells #[.int .i64 0] 3)) 26 [.int .i64 0]
    rw [hw1]; simpa using this
  have hbel1 : Below w.heap.size w w1 := by rw [hw1]; exact (((Below.refl _ _).alloc (Nat.le_refl _) _).alloc (by simp) _).alloc (by simp <;> omega) _
  have Hw1 := Lib.hid hw1
  have b1 := h.below hbel1
  have hs1 := hbel1.size
  have hsz1 : w1.heap.size = w.heap.size + 1 + 1 + 1 := by rw [hw1]; simp
  have hI1 : Blk 113 (w1.alloc (.cells #[.slice a L c] 113)) (w.heap.size + 1 + 1 + 1) [.slice a L c] := by rw [← hsz1]; exact Blk.new w1 113 [.slice a L c]
  have h2' := h2.alloc (.cells #[.slice a L c] 113)
  have h3' := h3.alloc (.cells #[.slice a L c] 113)
  have h4' := h4.alloc (.cells #[.slice a L c] 113)
  have hbel2 := hbel1.alloc hs1 (.cells #[.slice a L c] 113)
  have q4 := h4.lt
  obtain ⟨w2, hw2⟩ : ∃ w2, w2 = w1.alloc (.cells #[.slice a L c] 113) := ⟨_, rfl⟩
  rw [← hw2] at hI1 h2' h3' h4' hbel2
  have Hw2 := Lib.hid hw2
  clear hw1 hsz1 hw2 h2 h3 h4 hbel1 b1
  cases hp : par n b with
  | none =>
    simp only [hp, ItemPost_none] at hc
    have Hc := Lib.hid hc
    clear hc hp
    go_enter_defers Try.func15, Try.ntmps15
    go_wp2_with fail
    rw [← Hw1.out, ← Hw2.out]
    go_wp2_with (go_at_call 72; (with_reducible refine (Hc.out _ w2 hI1 (h.below hbel2)).mono ?_); rintro e w4 ⟨rfl, g4⟩; have h24 := h2'.grown g4 (by simp <;> omega); have h34 := h3'.grown g4 (by simp <;> omega); have h44 := h4'.grown g4 (by simp <;> omega); have hbel4 := hbel2.grown g4 hbel2.size (fun y hy => by cases hy; omega))
    refine leaves_cons (f := 71) (args := #[.pointer (some ⟨w.heap.size, 0, none⟩), .pointer (some ⟨w.heap.size + 1, 0, none⟩), .pointer (some ⟨w.heap.size + 1 + 1, 0, none⟩)]) (by simp) (by simp [go_sem]) ?_
    refine (catch_mis w.heap.size (w.heap.size + 1) (w.heap.size + 1 + 1) _ _ _ w4 h24 rfl h34 h44 (by omega) (by omega) (by omega) w.heap.size w hbel4 (by omega) (by omega) (by omega)).mono ?_
    rintro e u' w5 ⟨rfl, rfl, h25, h35, h45, hbel5⟩
    have k0 := h25.cell 0
    have k1 := h25.cell 1
    have k2 := h25.cell 2
    have k3 := h35.cell 0
    have k4 := h45.cell 0
    simp only [List.getElem?_cons_zero, List.getElem?_cons_succ] at k0 k1 k2 k3 k4
    simp [Leaves, settle, results, Try.results15, go_sem, k0, k1, k2, k3, k4]
    exact ⟨rfl, hbel5⟩
  | some pr =>
    obtain ⟨p, r⟩ := pr
    have hrl := par_len hp
    simp only [hp, ItemPost_some] at hc
    obtain ⟨L5, hL5⟩ : ∃ L5, L5 = r.length := ⟨_, rfl⟩
    rw [← hL5, HL.out] at hrl
    simp only [← hL5] at hc
    have Hc := Lib.hid hc
    have hsub : IntKind.i64.wrap ((L : Int) - (L5 : Int)) = ((L - L5 : Nat) : Int) := by rw [show (L : Int) - (L5 : Int) = ((L - L5 : Nat) : Int) from by omega]; exact IntWalk.i64_in _ (by omega)
    obtain ⟨D, hD⟩ : ∃ D, D = L - L5 := ⟨_, rfl⟩
    rw [← hD] at hsub
    rw [SplitPost_some, ← hL5, ← hD]
    clear hc hp hL5 hD
    go_enter_defers Try.func15, Try.ntmps15
    go_wp2_with fail
    rw [← Hw1.out, ← Hw2.out]
    go_wp2_with (first
      | (go_at_call 72; (with_reducible refine (Hc.out _ w2 hI1 (h.below hbel2)).mono ?_); rintro e w4 ⟨it, a5, c5, rfl, s5, B5, g4, F5, he5, hb5⟩; have h24 := h2'.grown g4 (by simp <;> omega); have h34 := h3'.grown g4 (by simp <;> omega); have h44 := h4'.grown g4 (by simp <;> omega); have hbel4 := hbel2.grown g4 hbel2.size (fun y hy => by cases hy; omega); obtain ⟨l, tv, t, kv, ks⟩ := it; obtain ⟨ta, tc, rfl, _, _⟩ := F5.is.inv.1.form; obtain ⟨ka, kc, rfl, _, _⟩ := F5.is.inv.2.1.form; obtain ⟨tn, htn⟩ : ∃ tn, tn = t.length := ⟨_, rfl⟩; obtain ⟨kn, hkn⟩ : ∃ kn, kn = ks.length := ⟨_, rfl⟩; rw [← htn, ← hkn] at F5 he5 hb5; rw [← htn, ← hkn]; clear htn hkn; simp only [icells]; have q2 := h2'.lt; have q5 := hI1.lt)
      | ((with_reducible show wpList _ _ _ (⟨none, Op.store _ _ (Operand.tmp 9), _, _, _, _⟩ :: _) _ _); refine wpList_storeA (o := ⟨none, _, _, _, _, _⟩) (by rfl) 25 (.tmp 2) (.tmp 9) (by rfl) w.heap.size [.bool l, .slice ta tn tc, .slice ka kn kc] (by rfl) (by rfl) aggItem h24 (by rfl) (by rfl) (by intro u hu; simp at hu; rcases hu with rfl | rfl | rfl <;> rfl) hbel4 (Nat.le_refl _) ?_; intro w5 h25 hbel5 g5))
    have h35 := h34.grown g5 (by simp <;> omega)
    have h45 := h44.grown g5 (by simp <;> omega)
    have B6 := B5.grown g5 (by simp <;> omega)
    have F6 : Fp (fun x => w2.heap.size ≤ x) w5 (.mk l (.slice ta tn tc) t (.slice ka kn kc) ks) := F5.to g5.size (fun x hx hl => ⟨g5.block x hl (by simp <;> omega), hx⟩)
    clear h2' h3' h4' hI1 hbel2 h24 h34 h44 B5 F5 g5 g4 hbel4 s5
    refine wp_region_via (fun aa b w' => b = (((((((aa.put (some 10) (.agg #[.bool l, .slice ta tn tc, .slice ka kn kc])).put (some 11) (.slice a L c)).put (some 12) (.int .i64 (L : Int))).put (some 13) (.pointer (some ⟨w.heap.size + 1 + 1 + 1, 0, none⟩))).put (some 14) (.slice a5 L5 c5)).put (some 15) (.int .i64 (L5 : Int))).put (some 16) (.int .i64 (D : Int))) ∧
      Blk 25 w' w.heap.size [.bool l, .slice ta tn tc, .slice ka kn kc] ∧ Blk 3 w' (w.heap.size + 1) [.int .i64 (D : Int)] ∧ Blk 26 w' (w.heap.size + 1 + 1) [.int .i64 0] ∧ Below w.heap.size w w' ∧ Fp (fun x => w.heap.size ≤ x) w' (.mk l (.slice ta tn tc) t (.slice ka kn kc) ks)) ?_ ?_
    · refine wp_region_h ((fun u => Blk 25 u w.heap.size [.bool l, .slice ta tn tc, .slice ka kn kc] ∧ Blk 113 u (w.heap.size + 1 + 1 + 1) [.slice a5 L5 c5])) (by kernel_rfl) ?_; intro u0 hu0; simp only [List.length_cons, List.length_nil, Nat.reduceAdd, List.replicate_succ, List.replicate_zero]
      have h26 : Blk 25 u0 w.heap.size [.bool l, .slice ta tn tc, .slice ka kn kc] := by rw [hu0]; exact h25.drew
      have h36 : Blk 3 u0 (w.heap.size + 1) [.int .i64 0] := by rw [hu0]; exact h35.drew
      have h46 : Blk 26 u0 (w.heap.size + 1 + 1) [.int .i64 0] := by rw [hu0]; exact h45.drew
      have B7 : Blk 113 u0 (w.heap.size + 1 + 1 + 1) [.slice a5 L5 c5] := by rw [hu0]; exact B6.drew
      have F7 : Fp (fun x => w2.heap.size ≤ x) u0 (.mk l (.slice ta tn tc) t (.slice ka kn kc) ks) := by rw [hu0]; exact F6.to (Nat.le_refl _) (fun x hx hl => ⟨rfl, hx⟩)
      have hbel6 : Below w.heap.size w u0 := by rw [hu0]; exact hbel5.drew
      have hS : (fun u => Blk 25 u w.heap.size [.bool l, .slice ta tn tc, .slice ka kn kc] ∧ Blk 113 u (w.heap.size + 1 + 1 + 1) [.slice a5 L5 c5]) u0 := ⟨h26, B7⟩
      have k3 : ∀ u : In (fun u => Blk 25 u w.heap.size [.bool l, .slice ta tn tc, .slice ka kn kc] ∧ Blk 113 u (w.heap.size + 1 + 1 + 1) [.slice a5 L5 c5]), u.val.cell? ⟨w.heap.size + 1 + 1 + 1, 0, none⟩ = some (.slice a5 L5 c5) := fun u => (u.held.2.cell 0).trans rfl
      clear hu0 h25 h35 h45 F6 hbel5 B6
      (refine wpH_take 0 (by rfl) (by kernel_rfl) (by intro _ _ _ h; first | exact h | (cases h.1)) (by intro _ _ _ _ h; first | exact h | (cases h.1)) (by assumption) (fun K hK => ?_); simp only [List.setIfInBounds_toArray, List.set_cons_zero, List.set_cons_succ] at hK; refine take_loadA (by rfl) 25 (.tmp 2) (by rfl) (w.heap.size) (by rfl) aggItem (fun u hu => hu.1) (by rfl) (hK _ ?_); clear hK K; simp only [Act.put, List.getElem_toArray, List.getElem_cons_zero, List.getElem_cons_succ, List.setIfInBounds_toArray, List.set_cons_zero, List.set_cons_succ])
      (refine wpH_take 1 (by rfl) (by kernel_rfl) (by intro _ _ _ h; first | exact h | (cases h.1)) (by intro _ _ _ _ h; first | exact h | (cases h.1)) (by assumption) (fun K hK => ?_); simp only [List.setIfInBounds_toArray, List.set_cons_zero, List.set_cons_succ] at hK; go_simp; first | (refine hK _ ?_; clear hK K) | (apply Exists.intro; refine ⟨fun _ => rfl, hK _ ?_⟩; clear hK K)); (refine wpH_take 2 (by rfl) (by kernel_rfl) (by intro _ _ _ h; first | exact h | (cases h.1)) (by intro _ _ _ _ h; first | exact h | (cases h.1)) (by assumption) (fun K hK => ?_); simp only [List.setIfInBounds_toArray, List.set_cons_zero, List.set_cons_succ] at hK; go_simp; first | (refine hK _ ?_; clear hK K) | (apply Exists.intro; refine ⟨fun _ => rfl, hK _ ?_⟩; clear hK K)); (refine wpH_take 3 (by rfl) (by kernel_rfl) (by intro _ _ _ h; first | exact h | (cases h.1)) (by intro _ _ _ _ h; first | exact h | (cases h.1)) (by assumption) (fun K hK => ?_); simp only [List.setIfInBounds_toArray, List.set_cons_zero, List.set_cons_succ] at hK; go_simp; first | (refine hK _ ?_; clear hK K) | (apply Exists.intro; refine ⟨fun _ => rfl, hK _ ?_⟩; clear hK K)); (refine wpH_take 4 (by rfl) (by kernel_rfl) (by intro _ _ _ h; first | exact h | (cases h.1)) (by intro _ _ _ _ h; first | exact h | (cases h.1)) (by assumption) (fun K hK => ?_); simp only [List.setIfInBounds_toArray, List.set_cons_zero, List.set_cons_succ] at hK; go_simp; first | (refine hK _ ?_; clear hK K) | (apply Exists.intro; refine ⟨fun _ => rfl, hK _ ?_⟩; clear hK K)); (refine wpH_take 5 (by rfl) (by kernel_rfl) (by intro _ _ _ h; first | exact h | (cases h.1)) (by intro _ _ _ _ h; first | exact h | (cases h.1)) (by assumption) (fun K hK => ?_); simp only [List.setIfInBounds_toArray, List.set_cons_zero, List.set_cons_succ] at hK; go_simp; first | (refine hK _ ?_; clear hK K) | (apply Exists.intro; refine ⟨fun _ => rfl, hK _ ?_⟩; clear hK K)); (refine wpH_take 6 (by rfl) (by kernel_rfl) (by intro _ _ _ h; first | exact h | (cases h.1)) (by intro _ _ _ _ h; first | exact h | (cases h.1)) (by assumption) (fun K hK => ?_); simp only [List.setIfInBounds_toArray, List.set_cons_zero, List.set_cons_succ] at hK; go_simp; first | (refine hK _ ?_; clear hK K) | (apply Exists.intro; refine ⟨fun _ => rfl, hK _ ?_⟩; clear hK K))
      clear k3
      refine wpH_only 7 (by rfl) (by kernel_rfl) (fun K hK => ?_)
      refine step_storeA (by rfl) 25 (.tmp 2) (.tmp 10) (by rfl) w.heap.size [.bool l, .slice ta tn tc, .slice ka kn kc] (by rfl) (by rfl) aggItem h26 (by rfl) (by rfl) (by intro u hu; simp at hu; rcases hu with rfl | rfl | rfl <;> rfl) (fun w7 h27 _ g7 => ?_)
      have B8 := B7.grown g7 (by simp <;> omega)
      have h37 := h36.grown g7 (by simp <;> omega)
      have h47 := h46.grown g7 (by simp <;> omega)
      have hbel7 := hbel6.grown g7 hbel6.size (fun y hy => by cases hy; omega)
      have F8 := F7.to g7.size (fun x hx hl => ⟨g7.block x hl (by simp <;> omega), hx⟩)
      refine hK _ _ ⟨h27, B8⟩ ?_; clear hK K
      have c3 : w7.cell? ⟨w.heap.size + 1, 0, none⟩ = some (.int .i64 0) := h37.cell 0
      have f3 := h37.free 0
      have h48 := h47.other ⟨w.heap.size + 1, 0, none⟩ (by simp <;> omega) (.int .i64 (D : Int))
      have h38 := h37.set 0 (.int .i64 (D : Int))
      have h28 := h27.other ⟨w.heap.size + 1, 0, none⟩ (by simp <;> omega) (.int .i64 (D : Int))
      have B9 := B8.other ⟨w.heap.size + 1, 0, none⟩ (by simp <;> omega) (.int .i64 (D : Int))
      (refine wpH_only 8 (by rfl) (by kernel_rfl) (fun K hK => ?_); simp only [List.setIfInBounds_toArray, List.set_cons_zero, List.set_cons_succ] at hK; go_simp)
      refine hK _ _ ⟨h28, B9⟩ ?_; clear hK K
      have c4 : (w7.setCell ⟨w.heap.size + 1, 0, none⟩ (.int .i64 (D : Int))).cell? ⟨w.heap.size + 1 + 1, 0, none⟩ = some (.int .i64 0) := h48.cell 0
      have f4 := h48.free 0
      have h29 := h28.other ⟨w.heap.size + 1 + 1, 0, none⟩ (by simp <;> omega) (.int .i64 0)
      have h39 := h38.other ⟨w.heap.size + 1 + 1, 0, none⟩ (by simp <;> omega) (.int .i64 0)
      have h49 := h48.set 0 (.int .i64 0)
      have B10 := B9.other ⟨w.heap.size + 1 + 1, 0, none⟩ (by simp <;> omega) (.int .i64 0)
      (refine wpH_only 9 (by rfl) (by kernel_rfl) (fun K hK => ?_); simp only [List.setIfInBounds_toArray, List.set_cons_zero, List.set_cons_succ] at hK; go_simp)
      refine hK _ _ ⟨h29, B10⟩ ?_; clear hK K
      have hbel9 := (hbel7.setCell (by show w.heap.size ≤ w.heap.size + 1; omega) (.int .i64 (D : Int)) (p := ⟨w.heap.size + 1, 0, none⟩)).setCell (by show w.heap.size ≤ w.heap.size + 1 + 1; omega) (.int .i64 0) (p := ⟨w.heap.size + 1 + 1, 0, none⟩)
      have hI9 : Fp (fun x => w.heap.size ≤ x) ((w7.setCell ⟨w.heap.size + 1, 0, none⟩ (.int .i64 (D : Int))).setCell ⟨w.heap.size + 1 + 1, 0, none⟩ (.int .i64 0)) (.mk l (.slice ta tn tc) t (.slice ka kn kc) ks) := by
        refine F8.to (by simp) (fun x hx hl => ⟨?_, by omega⟩)
        rw [(grown_cell (g := w.heap.size + 1 + 1) 0 (.int .i64 0)).block x (by simpa using hl) (by simp <;> omega), (grown_cell (g := w.heap.size + 1) 0 (.int .i64 (D : Int))).block x hl (by simp <;> omega)]
      exact wpH_done (by kernel_rfl) ⟨rfl, rfl, h29, h39, h49, hbel9, hI9⟩
    rintro b w9 ⟨rfl, h29, h39, h49, hbel9, hI9⟩
    simp only [Act.put, List.setIfInBounds_toArray, List.set_cons_zero, List.set_cons_succ]
    go_wp2_with fail
    refine leaves_cons (f := 71) (args := #[.pointer (some ⟨w.heap.size, 0, none⟩), .pointer (some ⟨w.heap.size + 1, 0, none⟩), .pointer (some ⟨w.heap.size + 1 + 1, 0, none⟩)]) (by simp) (by simp [go_sem]) ?_
    refine (catch_idle w.heap.size (w.heap.size + 1) (w.heap.size + 1 + 1) _).mono ?_
    rintro e u' w10 ⟨rfl, rfl, rfl⟩
    have k0 := h29.cell 0
    have k1 := h29.cell 1
    have k2 := h29.cell 2
    have k3 := h39.cell 0
    have k4 := h49.cell 0
    simp only [List.getElem?_cons_zero, List.getElem?_cons_succ, List.set_cons_zero] at k0 k1 k2 k3 k4
    simp [Leaves, settle, results, Try.results15, go_sem, k0, k1, k2, k3, k4]
    exact ⟨.mk l (.slice ta tn tc) t (.slice ka kn kc) ks, rfl, hbel9, hI9, he5, hb5⟩
end Go.Proofs.Ytohenjgegkgncaa
