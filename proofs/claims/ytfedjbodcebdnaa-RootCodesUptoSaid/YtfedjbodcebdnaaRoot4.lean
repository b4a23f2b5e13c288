/- root.forkItem. -/
import Derived.Test.YtfedjbodcebdnaaRoot2
import Derived.Test.YtfedjbodcebdnaaHeld
import Derived.Test.YtfedjbodcebdnaaApp
set_option linter.unusedSimpArgs false
set_option linter.unusedVariables false
namespace Go.Proofs.Ytfedjbodcebdnaa
open Go.RowKit
def OneItem (v : Value) (t : List UInt8) : Ty := fun u w => RowOf icells 3 w u [txt v t] ∧ ∃ g, u = .slice (some ⟨g, 0, none⟩) 1 1
theorem OneItem.mono (v : Value) (t : List UInt8) : Mono (OneItem v t) := fun _ _ _ ⟨h1, h2⟩ hb => ⟨RowOf.kept h1 hb, h2⟩
/-- how many of the first k are there -/
def manyK (n : Nat) (ks : List (List UInt8)) (k : Nat) : Nat := min n 1 + ((ks.take k).map fun t => min t.length 1).sum
theorem manyK_zero (n : Nat) (ks : List (List UInt8)) : manyK n ks 0 = min n 1 := by simp [manyK]
theorem manyK_succ (n : Nat) (ks : List (List UInt8)) (k : Nat) (t : List UInt8) (h : ks[k]? = some t) : manyK n ks (k + 1) = manyK n ks k + min t.length 1 := by
  have hk := (List.getElem?_eq_some_iff.1 h).1
  have he := (List.getElem?_eq_some_iff.1 h).2
  unfold manyK
  rw [List.take_succ_eq_append_getElem hk, List.map_append, List.sum_append, he]; simp; omega
theorem manyK_le (n : Nat) (ks : List (List UInt8)) (k : Nat) : manyK n ks k ≤ 1 + k := by
  unfold manyK
  have : ∀ l : List (List UInt8), (l.map fun t => min t.length 1).sum ≤ l.length := by
    intro l
    induction l with
    | nil => simp
    | cons x l ih => simp only [List.map_cons, List.sum_cons, List.length_cons]; omega
  have h1 := this (ks.take k)
  have h2 := List.length_take_le k ks
  omega
theorem manyK_all (v : List UInt8) (ks : List (List UInt8)) : manyK v.length ks ks.length = manyB v ks := by unfold manyK manyB; rw [List.take_length]
theorem txts_succ (ps : List (Value × List UInt8)) (k : Nat) (p : Value × List UInt8) (h : ps[k]? = some p) : txts (ps.take (k + 1)) = txts (ps.take k) ++ [txt p.1 p.2] := by
  have hk := (List.getElem?_eq_some_iff.1 h).1
  have he := (List.getElem?_eq_some_iff.1 h).2
  unfold txts
  rw [List.take_succ_eq_append_getElem hk, List.map_append, he]; rfl
theorem txt_one (a : Option Addr) (n c : Nat) (t : List UInt8) : ∀ u ∈ [txt (.slice a n c) t].flatMap icells, u.oneCell' = true := by
  intro u hu
  simp [txt, icells] at hu
  rcases hu with rfl | rfl | rfl <;> rfl
/-- What lies there in a round. -/
structure FkW (w : World) (g4 : Nat) (box : List Value) (kv : Value) (its : List Itm) (u : World) : Prop where
  hs : Blk 70 u w.heap.size box
  hz : Blk 37 u (w.heap.size + 1) [.bool false, .slice none 0 0, .slice none 0 0]
  hi : Blk 37 u g4 [.bool true, .slice none 0 0, kv]
  hO : OwnOf icells 3 37 u (g4 + 1) kv its
  hb : Below w.heap.size w u
  hg : w.heap.size + 1 < g4
theorem FkW.kept {w u u' : World} {g4 : Nat} {box : List Value} {kv : Value} {its : List Itm} (h : FkW w g4 box kv its u) (hb : Below u.heap.size u u') : FkW w g4 box kv its u' :=
  ⟨h.hs.kept hb, h.hz.kept hb, h.hi.kept hb, h.hO.kept hb, Below.then h.hb hb, h.hg⟩
/-- as ItemPost, and the item outlives a change of an elder block that holds no bytes -/
def ForkPost (ok : Bool) (B : List UInt8) (w : World) (e : Ending) (w' : World) : Prop :=
  ∃ (l : Bool) (ta : Option Addr) (tn tc : Nat) (t : List UInt8) (ka : Option Addr) (kn kc : Nat) (ks : List Itm), e = .returned (.tuple #[.agg #[.bool l, .slice ta tn tc, .slice ka kn kc], .bool ok]) ∧
    (ok = true → (∀ (g : Nat) (u : World) (cs : List Value), Blk 37 w' g cs → (∀ x ∈ cs, ∀ k, x ≠ .int .u8 k) → g < w.heap.size → w'.grownBy u (some g) → IsItm u (.mk l (.slice ta tn tc) t (.slice ka kn kc) ks)) ∧ encI (.mk l (.slice ta tn tc) t (.slice ka kn kc) ks) = B ∧ bulkI (.mk l (.slice ta tn tc) t (.slice ka kn kc) ks) ≤ 100000000) ∧ Below w.heap.size w w'
theorem Bytes.off_v {w w' : World} {v : Value} {g : Nat} {l : List UInt8} {e : TypeId} {cs : List Value} (h : Bytes w v l) (hz : Blk e w g cs) (hno : ∀ u ∈ cs, ∀ k, u ≠ .int .u8 k) (hg : w.grownBy w' (some g)) : Bytes w' v l := by
  obtain ⟨a, c, rfl, _, _⟩ := RowOf.form h
  exact Bytes.off h hz hno hg
theorem grown_cell {w : World} {g : Nat} (k : Nat) (x : Value) : w.grownBy (w.setCell ⟨g, k, none⟩ x) (some g) :=
  ⟨rfl, rfl, rfl, by simp, fun i hi hne => heap_setCell_other w _ i _ (by simpa using hne)⟩
theorem FkW.grew {w u u' : World} {g4 : Nat} {box : List Value} {kv kv' : Value} {its its' : List Itm} (h : FkW w g4 box kv its u) (hg : u.grownBy u' kv.ownBlock) (hO : OwnOf icells 3 37 u' (g4 + 1) kv' its') :
    FkW w g4 box kv' its' (u'.setCell ⟨g4, 2, none⟩ kv') := by
  have hne : ∀ b, b ≤ g4 → kv.ownBlock ≠ some b := fun b hb e => by have := (World.ownsRow.lt h.hO b e).1; omega
  have hg4 := h.hg
  have hs := h.hs.grown hg (hne _ (by omega))
  have hz := h.hz.grown hg (hne _ (by omega))
  have hi := h.hi.grown hg (hne _ (Nat.le_refl _))
  have hb := h.hb.grown hg h.hb.size (fun k hk => by have := (World.ownsRow.lt h.hO k hk).1; omega)
  refine ⟨hs.other _ (by simp; omega) _, hz.other _ (by simp; omega) _, hi.set 2 kv', hO.grown (grown_cell 2 kv') (fun k hk e => ?_), hb.setCell (by show w.heap.size ≤ g4; omega) _, hg4⟩
  cases hk
  have := (World.ownsRow.lt hO _ e).1
  omega
theorem sum_le (l : List (Value × List UInt8)) (M : Nat) (h : ∀ p ∈ l, p.2.length ≤ M) : (l.map fun p => 1 + p.2.length).sum ≤ l.length * (1 + M) := by
  induction l with
  | nil => simp
  | cons p l ih =>
    have h1 := ih (fun q hq => h q (List.mem_cons_of_mem _ hq))
    have h2 := h p List.mem_cons_self
    simp only [List.map_cons, List.sum_cons, List.length_cons, Nat.add_mul, Nat.one_mul]
    omega
theorem txts_len (ps : List (Value × List UInt8)) (k : Nat) (h : k ≤ ps.length) : (txts (ps.take k)).length = k := by simp [txts, h]
def OneB (B : Nat) (v : Value) (t : List UInt8) : Ty := fun u w => ∃ g, u = .slice (some ⟨g, 0, none⟩) 1 1 ∧ RowOf icells 3 w u [txt v t]
theorem OneB.mono (B : Nat) (v : Value) (t : List UInt8) : Mono (OneB B v t) := fun _ _ _ ⟨g, h1, h2⟩ hb => ⟨g, h1, RowOf.kept h2 hb⟩
set_option maxHeartbeats 2000000 in
set_option maxRecDepth 100000 in
theorem fork_any (pv : Value) (hpv : ∃ a n c, pv = .slice a n c) (va ka : Option Addr) (vn vc kn kc : Nat) (v : List UInt8) (ps : List (Value × List UInt8)) (hvn : v.length = vn) (hkn : ps.length = kn) (w : World) (hv : Bytes w (.slice va vn vc) v) (hk : Texts w (.slice ka kn kc) ps) (hV : vn ≤ 1048576) (hKs : ∀ q ∈ ps, q.2.length ≤ 1048576) :
    Calls Try.prog 107 #[.agg #[.int .i64 3, pv, .slice va vn vc, .slice ka kn kc]] w (ForkPost (decide (kn = 16) && decide (vn ≤ 1024) && ((ps.map (·.2)).all fun t => sumOk t.length true) && decide (2 ≤ manyB v (ps.map (·.2)))) (lsB (ps.map (·.2) ++ [v])) w) := by
  obtain ⟨pa, pn, pc, rfl⟩ := hpv
  obtain ⟨box, hbox⟩ : ∃ box : List Value, box = [.int .i64 3, .slice pa pn pc, .slice va vn vc, .slice ka kn kc] := ⟨_, rfl⟩
  have hs1 : Blk 70 ((w.alloc (.cells #[.int .i64 3, .slice pa pn pc, .slice va vn vc, .slice ka kn kc] 70)).alloc (.cells #[.bool false, .slice none 0 0, .slice none 0 0] 37)) w.heap.size box := by rw [hbox]; exact (Blk.new w 70 [.int .i64 3, .slice pa pn pc, .slice va vn vc, .slice ka kn kc]).alloc _
  have hz1 : Blk 37 ((w.alloc (.cells #[.int .i64 3, .slice pa pn pc, .slice va vn vc, .slice ka kn kc] 70)).alloc (.cells #[.bool false, .slice none 0 0, .slice none 0 0] 37)) (w.heap.size + 1) [.bool false, .slice none 0 0, .slice none 0 0] := by
    have := Blk.new (w.alloc (.cells #[.int .i64 3, .slice pa pn pc, .slice va vn vc, .slice ka kn kc] 70)) 37 [.bool false, .slice none 0 0, .slice none 0 0]
    simpa using this
  have hbel1 : Below w.heap.size w ((w.alloc (.cells #[.int .i64 3, .slice pa pn pc, .slice va vn vc, .slice ka kn kc] 70)).alloc (.cells #[.bool false, .slice none 0 0, .slice none 0 0] 37)) := ((Below.refl _ _).alloc (Nat.le_refl _) _).alloc (by simp) _
  have hb2 : box[2]? = some (.slice va vn vc) := by rw [hbox]; rfl
  have hb3 : box[3]? = some (.slice ka kn kc) := by rw [hbox]; rfl
  have Hb3 := Lib.hid hb3
  clear hb3
  obtain ⟨ok, hokk⟩ : ∃ ok, ok = (decide (kn = 16) && decide (vn ≤ 1024) && ((ps.map (·.2)).all fun t => sumOk t.length true) && decide (2 ≤ manyB v (ps.map (·.2)))) := ⟨_, rfl⟩
  rw [← hokk]
  have Hokk := Lib.hid hokk
  have Hvn := Lib.hid hvn
  have Hkn := Lib.hid hkn
  have HKs := Lib.hid hKs
  have Hb2 := Lib.hid hb2
  clear hokk hvn hkn hKs hbox hb2
  by_cases h0 : kn ≠ 16 ∨ 1024 < vn
  · have hokf : ok = false := by rw [Hokk.out]; rcases h0 with h | h <;> simp [h] <;> omega
    subst hokf
    have kc2 := (hs1.cell 2).trans Hb2.out
    have h3 : (((kn : Int) != 16) = true) ∨ (((kn : Int) != 16) = false ∧ (1024 : Int) < (vn : Int)) := by
      rcases Nat.lt_trichotomy kn 16 with h | h | h
      · left; rw [bne_iff_ne]; omega
      · right; exact ⟨by rw [bne_eq_false_iff_eq]; omega, by omega⟩
      · left; rw [bne_iff_ne]; omega
    clear h0
    rcases h3 with h3 | ⟨h3, h4⟩
    all_goals
      go_enter Try.func107, Try.ntmps107
      go_wp2_with ((with_reducible show wpList _ _ _ (⟨none, Op.store _ _ _, _, _, _, _⟩ :: _) _ _); refine wpList_storeA (o := ⟨none, _, _, _, _, _⟩) (by rfl) 37 (.tmp 2) (.tmp 18) (by rfl) (w.heap.size + 1) [.bool false, .slice none 0 0, .slice none 0 0] (by rfl) (by rfl) aggItem hz1 (by rfl) (by rfl) (by intro u hu; simp at hu; rcases hu with rfl | rfl <;> rfl) (Below.refl _ _) (Nat.le_refl _) ?_; intro w5 hh5 _ hg5; have hbel5 := hbel1.grown hg5 hbel1.size (fun j hj => by cases hj; omega))
      exact bodyPost_ret (results_blk_tmp rfl _ _ (w.heap.size + 1) aggItem hh5 rfl rfl rfl) rfl ⟨false, none, 0, 0, [], none, 0, 0, [], rfl, fun h => by simp at h, hbel5⟩
  · have h16 : ((kn : Int) != 16) = false := by rw [bne_eq_false_iff_eq]; omega
    have hvi : ¬ (1024 : Int) < (vn : Int) := by omega
    have hvd : decide ((1024 : Int) < (vn : Int)) = false := by rw [decide_eq_false_iff_not]; exact hvi
    have hvl : vn ≤ 1024 := by omega
    obtain rfl : kn = 16 := by omega
    clear h0 h16
    obtain ⟨w1, hw1⟩ : ∃ w1, w1 = (w.alloc (.cells #[.int .i64 3, .slice pa pn pc, .slice va vn vc, .slice ka 16 kc] 70)).alloc (.cells #[.bool false, .slice none 0 0, .slice none 0 0] 37) := ⟨_, rfl⟩
    have Hw1 := Lib.hid hw1
    rw [← hw1] at hs1 hz1 hbel1
    have kc2 := (hs1.cell 2).trans Hb2.out
    rw [hw1] at kc2
    clear hw1
    go_enter Try.func107, Try.ntmps107
    go_wp2_with fail
    rw [← Hw1.out]
    clear kc2
    have hS1 : CellAt ⟨w.heap.size, 2, none⟩ (.slice va vn vc) w1 := (hs1.cell 2).trans Hb2.out
    have k2 : ∀ u : In (CellAt ⟨w.heap.size, 2, none⟩ (.slice va vn vc)), u.val.cell? ⟨w.heap.size, 2, none⟩ = some (.slice va vn vc) := fun u => u.held
    obtain ⟨M0, hM0⟩ : ∃ M0, M0 = min vn 1 := ⟨_, rfl⟩
    have hmin : min (vn : Int) 1 = (M0 : Int) := by omega
    have HM0 := Lib.hid hM0
    clear hM0
    refine wp_region_via (fun a b w' => ∃ g4 : Nat, b = (((((((a.put (some 20) (.pointer (some ⟨w.heap.size, 2, none⟩))).put (some 21) (.slice va vn vc)).put (some 22) (.int .i64 (vn : Int))).put (some 23) (.int .i64 (M0 : Int))).put (some 19) (.agg #[.bool true, .slice none 0 0, .slice none 0 0])).put (some 4) (.pointer (some ⟨g4, 0, none⟩))).put (some 5) (.int .i64 (M0 : Int))) ∧ w1.heap.size ≤ g4 ∧ Blk 37 w' g4 [.bool true, .slice none 0 0, .slice none 0 0] ∧ Below w1.heap.size w1 w') ?_ ?_
    · refine wp_region_h (CellAt ⟨w.heap.size, 2, none⟩ (.slice va vn vc)) (by kernel_rfl) ?_; intro u0 hu0; simp only [List.length_cons, List.length_nil, Nat.reduceAdd, List.replicate_succ, List.replicate_zero]
      have hb0 : Below w1.heap.size w1 u0 := by rw [hu0]; exact (Below.refl _ _).drew
      have hS0 := hS1.below hb0
      have hws := hz1.lt
      clear hu0 hS1
      (refine wpH_take 1 (by rfl) (by kernel_rfl) (by intro _ _ _ h; first | exact h | (cases h.1)) (by intro _ _ _ _ h; first | exact h | (cases h.1)) (by assumption) (fun K hK => ?_); simp only [List.setIfInBounds_toArray, List.set_cons_zero, List.set_cons_succ] at hK; go_simp; first | (refine hK _ ?_; clear hK K) | (apply Exists.intro; refine ⟨fun _ => rfl, hK _ ?_⟩; clear hK K)); (refine wpH_take 2 (by rfl) (by kernel_rfl) (by intro _ _ _ h; first | exact h | (cases h.1)) (by intro _ _ _ _ h; first | exact h | (cases h.1)) (by assumption) (fun K hK => ?_); simp only [List.setIfInBounds_toArray, List.set_cons_zero, List.set_cons_succ] at hK; go_simp; first | (refine hK _ ?_; clear hK K) | (apply Exists.intro; refine ⟨fun _ => rfl, hK _ ?_⟩; clear hK K)); (refine wpH_take 3 (by rfl) (by kernel_rfl) (by intro _ _ _ h; first | exact h | (cases h.1)) (by intro _ _ _ _ h; first | exact h | (cases h.1)) (by assumption) (fun K hK => ?_); simp only [List.setIfInBounds_toArray, List.set_cons_zero, List.set_cons_succ] at hK; go_simp; first | (refine hK _ ?_; clear hK K) | (apply Exists.intro; refine ⟨fun _ => rfl, hK _ ?_⟩; clear hK K)); (refine wpH_take 4 (by rfl) (by kernel_rfl) (by intro _ _ _ h; first | exact h | (cases h.1)) (by intro _ _ _ _ h; first | exact h | (cases h.1)) (by assumption) (fun K hK => ?_); simp only [List.setIfInBounds_toArray, List.set_cons_zero, List.set_cons_succ] at hK; go_simp; first | (refine hK _ ?_; clear hK K) | (apply Exists.intro; refine ⟨fun _ => rfl, hK _ ?_⟩; clear hK K))
      refine wpH_all [0, 5] (by kernel_rfl) (by simp) ?_
      intro i hi
      simp only [List.mem_cons, List.not_mem_nil, or_false] at hi
      rcases hi with rfl | rfl
      · (refine brH_of (i := 0) (by rfl) (fun K hK => ?_); simp only [List.setIfInBounds_toArray, List.set_cons_zero, List.set_cons_succ] at hK; go_simp)
        (with_reducible refine (list_any _ _ _ _).mono ?_)
        rintro e u1 ⟨rfl, b1⟩
        have hS1 := hS0.below b1
        refine hK _ _ hS1 ?_; clear hK K
        have hb1 := Below.then hb0 b1
        (refine wpH_only 5 (by rfl) (by kernel_rfl) (fun K hK => ?_); simp only [List.setIfInBounds_toArray, List.set_cons_zero, List.set_cons_succ] at hK; go_simp)
        have h5 := Blk.new u1 37 [.bool false, .slice none 0 0, .slice none 0 0]
        have b2 : Below u1.heap.size u1 (u1.alloc (.cells #[.bool false, .slice none 0 0, .slice none 0 0] 37)) := (Below.refl _ _).alloc (Nat.le_refl _) _
        have hS2 := hS1.below b2
        refine hK _ _ hS2 ?_; clear hK K
        have hb2 := Below.then hb1 b2
        refine wpH_only 6 (by rfl) (by kernel_rfl) (fun K hK => ?_)
        refine step_storeA (by rfl) 37 (.tmp 4) (.tmp 19) (by rfl) u1.heap.size [.bool true, .slice none 0 0, .slice none 0 0] (by rfl) (by rfl) aggItem h5 (by rfl) (by rfl) (by intro u hu; simp at hu; rcases hu with rfl | rfl <;> rfl) (fun v1 o5 c5 r5 => ?_)
        have hS3 := hS2.grown r5 (by have := hb1.size; simp; omega)
        refine hK _ _ hS3 ?_; clear hK K
        have hb3 := hb2.grown r5 hb2.size (fun j hj => by cases hj; exact hb1.size)
        have hs1' := hb1.size
        clear k2
        (refine wpH_take 7 (by rfl) (by kernel_rfl) (by intro _ _ _ h; first | exact h | (cases h.1)) (by intro _ _ _ _ h; first | exact h | (cases h.1)) (by assumption) (fun K hK => ?_); simp only [List.setIfInBounds_toArray, List.set_cons_zero, List.set_cons_succ] at hK; go_simp; first | (refine hK _ ?_; clear hK K) | (apply Exists.intro; refine ⟨fun _ => rfl, hK _ ?_⟩; clear hK K))
        exact wpH_done (by kernel_rfl) ⟨rfl, u1.heap.size, rfl, hs1', o5, hb3⟩
      · (refine brH_of (i := 5) (by rfl) (fun K hK => ?_); simp only [List.setIfInBounds_toArray, List.set_cons_zero, List.set_cons_succ] at hK; go_simp)
        have h5 := Blk.new u0 37 [.bool false, .slice none 0 0, .slice none 0 0]
        have b1 : Below u0.heap.size u0 (u0.alloc (.cells #[.bool false, .slice none 0 0, .slice none 0 0] 37)) := (Below.refl _ _).alloc (Nat.le_refl _) _
        have hS1 := hS0.below b1
        refine hK _ _ hS1 ?_; clear hK K
        have hb1 := Below.then hb0 b1
        (refine wpH_only 0 (by rfl) (by kernel_rfl) (fun K hK => ?_); simp only [List.setIfInBounds_toArray, List.set_cons_zero, List.set_cons_succ] at hK; go_simp)
        (with_reducible refine (list_any _ _ _ _).mono ?_)
        rintro e u2 ⟨rfl, b2⟩
        have hS2 := hS1.below b2
        have h6 := h5.kept b2
        refine hK _ _ hS2 ?_; clear hK K
        have hb2 := Below.then hb1 b2
        refine wpH_only 6 (by rfl) (by kernel_rfl) (fun K hK => ?_)
        refine step_storeA (by rfl) 37 (.tmp 4) (.tmp 19) (by rfl) u0.heap.size [.bool true, .slice none 0 0, .slice none 0 0] (by rfl) (by rfl) aggItem h6 (by rfl) (by rfl) (by intro u hu; simp at hu; rcases hu with rfl | rfl <;> rfl) (fun v1 o5 c5 r5 => ?_)
        have hS3 := hS2.grown r5 (by have := hb0.size; simp; omega)
        refine hK _ _ hS3 ?_; clear hK K
        have hb3 := hb2.grown r5 hb2.size (fun j hj => by cases hj; exact hb0.size)
        have hs1' := hb0.size
        clear k2
        (refine wpH_take 7 (by rfl) (by kernel_rfl) (by intro _ _ _ h; first | exact h | (cases h.1)) (by intro _ _ _ _ h; first | exact h | (cases h.1)) (by assumption) (fun K hK => ?_); simp only [List.setIfInBounds_toArray, List.set_cons_zero, List.set_cons_succ] at hK; go_simp; first | (refine hK _ ?_; clear hK K) | (apply Exists.intro; refine ⟨fun _ => rfl, hK _ ?_⟩; clear hK K))
        exact wpH_done (by kernel_rfl) ⟨rfl, u0.heap.size, rfl, hs1', o5, hb3⟩
    rintro b w2 ⟨g4, rfl, hg4, hi2, hb2⟩
    simp only [Act.put, List.setIfInBounds_toArray, List.set_cons_zero, List.set_cons_succ]
    have hs2 := hs1.kept hb2
    have hz2 := hz1.kept hb2
    have hbel2 := Below.then hbel1 hb2
    have kk := (hs2.cell 3).trans (show _ = _ from Hb3.out)
    clear k2 hmin hS1
    go_wp2_with fail
    have hg0 : w.heap.size + 1 < g4 := by have := hz1.lt; omega
    have hm0 : (M0 : Nat) = manyK vn (ps.map (·.2)) 0 := by rw [manyK_zero]; exact HM0.out
    have hF0 : FkW w g4 box (.slice none 0 0) (txts (ps.take 0)) w2 := ⟨hs2, hz2, hi2, OwnOf.nil icells 3 _ _ _, hbel2, hg0⟩
    have Hm0 := Lib.hid hm0
    clear hm0 hs2 hz2 hi2 hbel2 hs1 hz1 hbel1 kk hb2 hg4
    go_loopw [5, 27] (fun t5 ix wr => ∃ (k : Nat) (ka2 : Option Addr) (kc2 : Nat), k ≤ 16 ∧ ix = .int .i64 (k : Int) ∧ t5 = .int .i64 ((manyK vn (ps.map (·.2)) k : Nat) : Int) ∧ Hid (∀ q ∈ ps.take k, sumOk q.2.length true = true) ∧ FkW w g4 box (.slice ka2 k kc2) (txts (ps.take k)) wr) (fun _ ix _ => 16 - (intOf ix).toNat)
    case atStart => exact ⟨0, none, 0, by omega, rfl, by rw [← Hm0.out], Lib.hid (fun q hq => by simp at hq), hF0⟩
    case round =>
      clear hF0
      obtain ⟨k, ka2, kc2, hk', rfl, rfl, hall, hF⟩ := hrel
      by_cases hlt : k < 16
      · have hki : (k : Int) < 16 := by omega
        have hkl : k < ps.length := by rw [Hkn.out]; exact hlt
        obtain ⟨b, off, q, rfl, hq, hc, hbq⟩ := Texts.at (hk.below hF.hb) k hkl
        have hql := HKs.out q (List.mem_of_getElem? hq)
        have hts := txts_succ ps k q hq
        have hmk : (ps.map (·.2))[k]? = some q.2 := by rw [List.getElem?_map, hq]; rfl
        have hms := manyK_succ vn (ps.map (·.2)) k q.2 hmk
        have hml := manyK_le vn (ps.map (·.2)) k
        have hmem := List.mem_of_getElem? hq
        have htk : ps.take (k + 1) = ps.take k ++ [q] := by rw [List.take_succ_eq_append_getElem hkl]; rw [(List.getElem?_eq_some_iff.1 hq).2]
        obtain ⟨qv, ql⟩ := q
        simp only at hc hbq hql hts hms
        obtain ⟨qa, qc, rfl, _, hqm⟩ := hbq.form
        obtain ⟨qn, hqn⟩ : ∃ qn, qn = ql.length := ⟨_, rfl⟩
        rw [← hqn] at hc hbq hql hms hts
        have cs := fun x => rsum_any qa qn qc true x (by omega)
        obtain ⟨m0, hm0⟩ : ∃ m0, m0 = manyK vn (ps.map (·.2)) k := ⟨_, rfl⟩
        obtain ⟨m1, hm1⟩ : ∃ m1, m1 = manyK vn (ps.map (·.2)) (k + 1) := ⟨_, rfl⟩
        obtain ⟨mq, hmq⟩ : ∃ mq, mq = min qn 1 := ⟨_, rfl⟩
        rw [← hm0, ← hm1, ← hmq] at hms
        rw [← hm0] at hml
        have hmqi : min (qn : Int) 1 = (mq : Int) := by omega
        have hmsi : (m0 : Int) + (mq : Int) = (m1 : Int) := by omega
        have hmq1 : mq ≤ 1 := by omega
        rw [← hm0]
        have Hqn := Lib.hid hqn
        have Hts := Lib.hid hts
        have Hm1 := Lib.hid hm1
        have Htk := Lib.hid htk
        by_cases hso : sumOk qn true = true
        · rw [hso] at cs
          have Cs := Lib.hid cs
          have hall2 : Hid (∀ q ∈ ps.take (k + 1), sumOk q.2.length true = true) := Lib.hid (fun q hq => by
            rw [Htk.out] at hq
            rcases List.mem_append.1 hq with hq | hq
            · exact hall.out q hq
            · rw [List.mem_singleton] at hq
              rw [hq, ← Hqn.out]; exact hso)
          have c1 := fun x => text_any qa qn qc x
          have C1 := Lib.hid c1
          have hw39 : IntKind.i64.wrap ((m0 : Int) + (mq : Int)) = (m1 : Int) := by rw [hmsi]; exact IntWalk.i64_in _ (by omega)
          have htl := txts_len ps k (by omega)
          have Htl := Lib.hid htl
          have k3 := fun u : Ext wr => u.cell ((hF.hi.cell 2).trans (show _ = some (Value.slice ka2 k kc2) from rfl))
          have h1c := txt_one qa qn qc ql
          clear cs c1 hso hm0 hm1 hmq hms hts hmk htk hmem hq hqn htl hall
          go_wp2_with (go_at_call 106; (with_reducible refine (Cs.out _).mono ?_); rintro e w3 ⟨rfl, rfl⟩)
          clear hw39 hmqi
          refine wp_region_typed wr 5 (by kernel_rfl) (by kernel_rfl) (Below.refl _ _) ?_; simp only [List.take_succ_cons, List.take_zero, List.take_nil]
          iterate 3 (refine wpX_step (by rfl) (fun K hK => ?_); go_simp; first | (refine hK _ ?_; clear hK K) | (apply Exists.intro; refine ⟨fun _ => ?_, hK _ ?_⟩; fail; clear hK K))
          (refine wpX_step (by rfl) (fun K hK => ?_); go_simp; first | (refine hK _ ?_; clear hK K) | (apply Exists.intro; refine ⟨fun _ => ?_, hK _ ?_⟩; exact C1.out _; clear hK K))
          refine wpX_rel 44 (OneB 0 (.slice qa qn qc) ql) rfl (of_decide_eq_true rfl) (OneB.mono _ _ _) (fun w3 hw3 => ?_) ?_
          · simp only [relOf, List.filter_nil, forallRel]
            refine ⟨rfl, ?_⟩
            go_simp
            exact ⟨(Below.refl _ _).alloc (Nat.le_refl _) _, w3.heap.size, rfl, Row.built icells_len w3 37 [txt (.slice qa qn qc) ql] 1 rfl (by unfold maxLen; omega)⟩
          refine wpX_nil ?_
          intro u2 hb2 v44 h44
          change wpList _ _ _ [_, _, _] _ _
          obtain ⟨g44, rfl, hr44⟩ := h44
          have hF2 := hF.kept hb2
          have hO2 := hF2.hO
          have hsz2 : g4 + 1 ≤ u2.heap.size := hF2.hi.lt
          clear k3 hF
          go_wp2_with (refine wpList_appB (o := ⟨some 45, _, _, _, _, _⟩) (by rfl) (.tmp 41) (.tmp 44) 35 (by rfl) elItem h1c (by rfl) hO2 (by rfl) hr44 hsz2 (by rw [Htl.out]; simp; omega) (by rw [Htl.out]; unfold maxLen; simp; omega) ?_; intro v5 w5 hO5 hg5 _; obtain ⟨a5, c5, rfl, _⟩ := hO5.form' (k + 1) (by rw [List.length_append, Htl.out]; rfl); have hF5 := hF2.grew hg5 hO5; have hc5 := (hF2.hi.grown hg5 (fun e => by have := (World.ownsRow.lt hO2 g4 e).1; omega)).has 2 (by simp); have hf5 := (hF2.hi.grown hg5 (fun e => by have := (World.ownsRow.lt hO2 g4 e).1; omega)).free 2; obtain ⟨y5, hy5⟩ := hc5)
          rw [← Hts.out] at hF5
          go_roundw
          case rel => exact ⟨k + 1, a5, c5, by omega, by go_num, by rw [Hm1.out], hall2, hF5⟩
          case measure => simp [intOf]; omega
        · have hsf : sumOk qn true = false := by simpa using hso
          have hokf : ok = false := by
            rw [Hokk.out]
            have : ((ps.map (·.2)).all fun t => sumOk t.length true) = false := by
              rw [List.all_eq_false]
              exact ⟨ql, List.mem_map.2 ⟨_, hmem, rfl⟩, by rw [← Hqn.out, hsf]; simp⟩
            rw [this]; simp
          rw [hsf] at cs
          have Cs := Lib.hid cs
          have hz := hF.hz
          have hbel := hF.hb
          subst hokf
          clear cs hso hsf hm0 hm1 hmq hms hts hmk htk hmem hq hqn hmsi hmqi hml hbq
          go_wp2_with (first
            | (go_at_call 106; (with_reducible refine (Cs.out _).mono ?_); rintro e w3 ⟨rfl, rfl⟩)
            | ((with_reducible show wpList _ _ _ (⟨none, Op.store _ _ _, _, _, _, _⟩ :: _) _ _); refine wpList_storeA (o := ⟨none, _, _, _, _, _⟩) (by rfl) 37 (.tmp 2) (.tmp 34) (by rfl) (w.heap.size + 1) [.bool false, .slice none 0 0, .slice none 0 0] (by rfl) (by rfl) aggItem hz (by rfl) (by rfl) (by intro u hu; simp at hu; rcases hu with rfl | rfl <;> rfl) (Below.refl _ _) (Nat.le_refl _) ?_; intro w5 hh5 _ hg5; have hbel5 := hbel.grown hg5 hbel.size (fun j hj => by cases hj; omega)))
          exact bodyPost_ret (results_blk_tmp rfl _ _ (w.heap.size + 1) aggItem hh5 rfl rfl rfl) rfl ⟨false, none, 0, 0, [], none, 0, 0, [], rfl, fun h => by simp at h, hbel5⟩
      · obtain rfl : k = 16 := by omega
        have htk : ps.take 16 = ps := List.take_of_length_le (by rw [Hkn.out]; omega)
        rw [htk] at hF hall
        have hmall : manyK vn (ps.map (·.2)) 16 = manyB v (ps.map (·.2)) := by
          rw [← Hvn.out, ← manyK_all, List.length_map, Hkn.out]
        rw [hmall]
        have hml := manyK_le vn (ps.map (·.2)) 16
        rw [hmall] at hml
        have hoka : ok = decide (2 ≤ manyB v (ps.map (·.2))) := by
          rw [Hokk.out]
          have : ((ps.map (·.2)).all fun t => sumOk t.length true) = true := by
            rw [List.all_eq_true]
            intro t ht
            obtain ⟨q, hq, rfl⟩ := List.mem_map.1 ht
            exact hall.out q hq
          rw [this]; simp [hvl]
        obtain ⟨mm, hmm⟩ : ∃ mm, mm = manyB v (ps.map (·.2)) := ⟨_, rfl⟩
        rw [← hmm] at hml hoka
        rw [← hmm]
        have hokd : decide ((2 : Int) ≤ (mm : Int)) = ok := by
          rw [hoka]
          by_cases h2 : 2 ≤ mm
          · rw [decide_eq_true h2, decide_eq_true (by omega)]
          · rw [decide_eq_false h2, decide_eq_false (by omega)]
        have c1 := fun x => text_any va vn vc x
        have C1 := Lib.hid c1
        have htl : (txts ps).length = 16 := by simp [txts, Hkn.out]
        have Htl := Lib.hid htl
        have k3 := fun u : Ext wr => u.cell ((hF.hi.cell 2).trans (show _ = some (Value.slice ka2 16 kc2) from rfl))
        have k4 := fun u : Ext wr => u.cell ((hF.hs.cell 2).trans Hb2.out)
        have h1c := txt_one va vn vc v
        clear c1 hmm hmall hoka htk htl hall
        go_wp2_with fail
        refine wp_region_typed wr 6 (by kernel_rfl) (by kernel_rfl) (Below.refl _ _) ?_; simp only [List.take_succ_cons, List.take_zero, List.take_nil]
        iterate 4 (refine wpX_step (by rfl) (fun K hK => ?_); go_simp; first | (refine hK _ ?_; clear hK K) | (apply Exists.intro; refine ⟨fun _ => ?_, hK _ ?_⟩; fail; clear hK K))
        (refine wpX_step (by rfl) (fun K hK => ?_); go_simp; first | (refine hK _ ?_; clear hK K) | (apply Exists.intro; refine ⟨fun _ => ?_, hK _ ?_⟩; exact C1.out _; clear hK K))
        refine wpX_rel 53 (OneB 0 (.slice va vn vc) v) rfl (of_decide_eq_true rfl) (OneB.mono _ _ _) (fun w3 hw3 => ?_) ?_
        · simp only [relOf, List.filter_nil, forallRel]
          refine ⟨rfl, ?_⟩
          go_simp
          exact ⟨(Below.refl _ _).alloc (Nat.le_refl _) _, w3.heap.size, rfl, Row.built icells_len w3 37 [txt (.slice va vn vc) v] 1 rfl (by unfold maxLen; omega)⟩
        refine wpX_nil ?_
        intro u2 hb2 v53 h53
        change wpList _ _ _ [_, _, _] _ _
        obtain ⟨g53, rfl, hr53⟩ := h53
        have hF2 := hF.kept hb2
        have hO2 := hF2.hO
        have hsz2 : g4 + 1 ≤ u2.heap.size := hF2.hi.lt
        clear k3 k4 hF
        go_wp2_with (first
          | (refine wpList_appB (o := ⟨some 54, _, _, _, _, _⟩) (by rfl) (.tmp 49) (.tmp 53) 35 (by rfl) elItem h1c (by rfl) hO2 (by rfl) hr53 hsz2 (by rw [Htl.out]; simp) (by rw [Htl.out]; unfold maxLen; simp) ?_; intro v5 w5 hO5 hg5 _; obtain ⟨a5, c5, rfl, _⟩ := hO5.form' 17 (by rw [List.length_append, Htl.out]; rfl); have hF5 := hF2.grew hg5 hO5; have hc5 := (hF2.hi.grown hg5 (fun e => by have := (World.ownsRow.lt hO2 g4 e).1; omega)).has 2 (by simp); have hf5 := (hF2.hi.grown hg5 (fun e => by have := (World.ownsRow.lt hO2 g4 e).1; omega)).free 2; obtain ⟨y5, hy5⟩ := hc5)
          | (refine wpList_loadA (o := ⟨some 56, _, _, _, _, _⟩) (by rfl) 37 (.tmp 4) (by rfl) g4 (by rfl) aggItem hF5.hi (by rfl) ?_)
          | ((with_reducible show wpList _ _ _ (⟨none, Op.store _ _ (Operand.tmp 56), _, _, _, _⟩ :: _) _ _); refine wpList_storeA (o := ⟨none, _, _, _, _, _⟩) (by rfl) 37 (.tmp 2) (.tmp 56) (by rfl) (w.heap.size + 1) [.bool true, .slice none 0 0, .slice a5 17 c5] (by rfl) (by rfl) aggItem hF5.hz (by rfl) (by rfl) (by intro u hu; simp at hu; rcases hu with rfl | rfl | rfl <;> rfl) (Below.refl _ _) (Nat.le_refl _) ?_; intro w6 hh6 _ hg6; have hbel6 := hF5.hb.grown hg6 hF5.hb.size (fun j hj => by cases hj; omega); have hO6 := hF5.hO.grown hg6 (fun k hk e => by cases hk; have := (World.ownsRow.lt hF5.hO _ e).1; omega)))
        have e1 : txts ps ++ [txt (.slice va vn vc) v] = txts (ps ++ [(.slice va vn vc, v)]) := by unfold txts; rw [List.map_append]; rfl
        rw [e1] at hO6
        have hall6 : ∀ p ∈ ps ++ [(Value.slice va vn vc, v)], Bytes w6 p.1 p.2 := fun p hp => by
          rcases List.mem_append.1 hp with hp | hp
          · exact (hk.2 p hp).below hbel6
          · rw [List.mem_singleton] at hp; rw [hp]; exact hv.below hbel6
        have hle : ∀ p ∈ ps ++ [(Value.slice va vn vc, v)], p.2.length ≤ 1048576 := fun p hp => by
          rcases List.mem_append.1 hp with hp | hp
          · exact HKs.out p hp
          · rw [List.mem_singleton] at hp; rw [hp]; have := Hvn.out; simp; omega
        refine bodyPost_ret (results_blk_tmp rfl _ _ (w.heap.size + 1) aggItem hh6 rfl rfl rfl) rfl ⟨true, none, 0, 0, [], a5, 17, c5, txts (ps ++ [(.slice va vn vc, v)]), rfl, fun _ => ⟨?_, ?_, ?_⟩, hbel6⟩
        · intro g u cs hcs hno hgw hgu
          exact IsItm.lst (hO6.grown hgu (fun k hk e => by cases hk; have := (World.ownsRow.lt hO6 _ e).1; omega)).row (txts_is (fun p hp => Bytes.off_v (hall6 p hp) hcs hno hgu))
        · have := encI_lst_txts (.slice a5 17 c5) (ps ++ [(.slice va vn vc, v)])
          rw [List.map_append] at this
          exact this
        · refine Nat.le_trans (Nat.le_of_eq (bulk_lst (.slice a5 17 c5) (txts (ps ++ [(Value.slice va vn vc, v)])))) ?_
          rw [bulkL_txts]
          have := sum_le _ 1048576 hle
          rw [List.length_append, Hkn.out] at this
          simp only [List.length_singleton] at this
          omega
end Go.Proofs.Ytfedjbodcebdnaa
