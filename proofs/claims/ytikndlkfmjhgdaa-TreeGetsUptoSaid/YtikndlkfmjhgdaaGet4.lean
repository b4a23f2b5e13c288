/- tree.get of any right tree. -/
import Derived.Test.YtikndlkfmjhgdaaGet3
set_option linter.unusedSimpArgs false
set_option linter.unusedVariables false
namespace Go.Proofs.Ytikndlkfmjhgdaa
open Go.RowKit
def SlG (l : List UInt8) : Ty := fun v w => ∃ (a : Option Addr) (n c : Nat), v = .slice a n c ∧ Bytes w (.slice a n c) l
theorem SlG.mono (l : List UInt8) : Mono (SlG l) := fun _ _ _ ⟨a, n, c, h, h2⟩ hb => ⟨a, n, c, h, h2.below hb⟩
def getF (v : List UInt8) (ks : List Nd) : List UInt8 → List UInt8
  | [] => v
  | x :: q => getL ks x.toNat q
theorem below_dr {B : Nat} {a w : World} (h : Below B a w) (n : Nat) : Below B a (w.drewN n) := h.trans ⟨rfl, rfl, rfl, Nat.le_refl _, fun _ _ => rfl⟩
section
variable (pa va qa : Option Addr) (pn pc vn vc qn qc : Nat) (p v q : List UInt8) (w : World)
set_option maxHeartbeats 1000000 in
set_option maxRecDepth 100000 in
theorem get_road (hpn : p.length = pn) (hqn : q.length = qn) (hp : Bytes w (.slice pa pn pc) p) (hq : Bytes w (.slice qa qn qc) q) (k : Nd) (hk3 : k.kd = 3) (d : Nat) (hr : rgt d k = true) (hx : ∀ x ∈ q, x.toNat < 16) (hI : IsNd w k) (ih : GtC k) :
    Calls Try.prog 80 #[.iface 193 (.agg #[.slice pa pn pc, nv k]), .slice qa qn qc] w (GtPost (if com p q = p.length then getP k (q.drop p.length) else []) w) := by
  obtain ⟨R, hR⟩ : ∃ R, R = if com p q = p.length then getP k (q.drop p.length) else [] := ⟨_, rfl⟩
  rw [← hR]
  have HR := Lib.hid hR
  obtain ⟨x, hnv⟩ := nv_fork hk3
  have ihk := ih d (q.drop p.length)
  rw [hnv] at ihk ⊢
  have z1 := as2_1
  have z2 := as2_2
  obtain ⟨w1, hw1⟩ : ∃ w1, w1 = w.alloc (.cells #[.slice pa pn pc, .iface 196 x] 193) := ⟨_, rfl⟩
  have hz : Blk 193 w1 w.heap.size [.slice pa pn pc, .iface 196 x] := by rw [hw1]; exact Blk.new w _ _
  have hbel : Below w.heap.size w w1 := by rw [hw1]; exact (Below.refl _ _).alloc (Nat.le_refl _) _
  have m0 := (hz.cell 0).trans (show _ = some (Value.slice pa pn pc) from rfl)
  have cc := fun u (hu : Below w.heap.size w u) => common_any pa qa pc qc p q u (by rw [hpn]; exact hp.below hu) (by rw [hqn]; exact hq.below hu)
  rw [hpn, hqn] at cc
  have hcl := com_le p q
  have Cc := Lib.hid cc
  have Hw1 := Lib.hid hw1
  have Hpn := Lib.hid hpn
  have Hqn := Lib.hid hqn
  rw [hw1] at m0
  by_cases he : com p q = pn
  · have hRe : getP k (q.drop p.length) = R := by rw [HR.out, if_pos (by rw [hpn]; exact he)]
    rw [hRe] at ihk
    have hei : ((com p q : Int) == (pn : Int)) = true := by rw [beq_iff_eq]; omega
    obtain ⟨a5, c5, run5, row5⟩ := RowOf.from elU8 (hq.below hbel) pn (by omega) (pn : Int) rfl
    have cg := fun (u : World) (hu : Below w1.heap.size w1 u) => ihk a5 (qn - pn) c5 u ((hI.kept hbel).kept hu) hr (fun y hy => hx y (List.mem_of_mem_drop hy)) (by rw [hpn]; exact row5.below hu)
    have Cg := Lib.hid cg
    obtain ⟨C, hC⟩ : ∃ C, C = com p q := ⟨_, rfl⟩
    rw [← hC] at hei
    simp only [← hC] at Cc
    clear hw1 hR hpn hqn cc hcl hRe ihk row5 cg hnv hp hq hx hI ih he hC
    go_enter Try.func80, Try.ntmps80
    go_wp2_with (go_at_call 113; (with_reducible refine (Cc.out _ (by rw [← Hw1.out]; exact hbel)).mono ?_); rintro e w2 ⟨rfl, m, rfl⟩; rw [← Hw1.out])
    have bd : Below w1.heap.size w1 (w1.drewN m) := below_dr (Below.refl _ _) m
    have hz2 := hz.kept bd
    have k1 := fun u : Ext (w1.drewN m) => u.cell ((hz2.cell 1).trans (show _ = some (Value.iface 196 x) from rfl))
    refine wp_region_typed (w1.drewN m) 6 (by kernel_rfl) (by kernel_rfl) (Below.refl _ _) ?_; simp only [List.take_succ_cons, List.take_zero, List.take_nil]
    iterate 5 (refine wpX_step (by rfl) (fun K hK => ?_); go_simp; first | (refine hK _ ?_; clear hK K) | (apply Exists.intro; refine ⟨fun _ => ?_, hK _ ?_⟩; fail; clear hK K))
    refine wpX_rel 38 (SlG R) rfl (of_decide_eq_true rfl) (SlG.mono _) (fun w6 hw6 => ?_) ?_
    · simp only [relOf, List.filter_nil, forallRel]
      refine ⟨rfl, ?_⟩
      go_simp
      refine (Cg.out w6 (Below.then bd hw6)).mono ?_
      rintro e w7 ⟨a, n, c, rfl, b7, h7⟩
      exact ⟨_, rfl, ⟨a, n, c, rfl, h7⟩, b7⟩
    refine wpX_nil ?_
    intro u2 hb2 v38 h38
    change wpList _ _ _ [_] _ _
    simp only [Act.put, List.setIfInBounds_toArray, List.set_cons_zero, List.set_cons_succ]
    obtain ⟨a, n, c, rfl, h7⟩ := h38
    go_wp2_with fail
    go_ret
    exact ⟨a, n, c, rfl, Below.then (Below.then hbel bd) hb2, h7⟩
  · have hRe : [] = R := by rw [HR.out, if_neg (by rw [hpn]; exact he)]
    subst hRe
    have hei : ((com p q : Int) == (pn : Int)) = false := by rw [beq_eq_false_iff_ne]; omega
    obtain ⟨C, hC⟩ : ∃ C, C = com p q := ⟨_, rfl⟩
    rw [← hC] at hei
    simp only [← hC] at Cc
    clear hw1 hR hpn hqn cc hcl ihk hnv hp hq hx hI ih he hC
    go_enter Try.func80, Try.ntmps80
    go_wp2_with (go_at_call 113; (with_reducible refine (Cc.out _ (by rw [← Hw1.out]; exact hbel)).mono ?_); rintro e w2 ⟨rfl, m, rfl⟩; rw [← Hw1.out])
    go_ret
    exact ⟨none, 0, 0, rfl, below_dr hbel m, RowOf.nil b8 1 _⟩
set_option maxHeartbeats 1000000 in
set_option maxRecDepth 100000 in
theorem get_fork (hqn : q.length = qn) (ks : List Nd) (hkn : ks.length = 16) (hv : Bytes w (.slice va vn vc) v) (hq : Bytes w (.slice qa qn qc) q) (d : Nat) (hr : ∀ k ∈ ks, rgt d k = true) (hx : ∀ x ∈ q, x.toNat < 16) (hI : ∀ k ∈ ks, IsNd w k) (ih : ∀ k ∈ ks, GtC k) :
    Calls Try.prog 80 #[.iface 196 (.agg (nvL ks ++ [Value.slice va vn vc]).toArray), .slice qa qn qc] w (GtPost (getF v ks q) w) := by
  obtain ⟨R, hR⟩ : ∃ R, R = getF v ks q := ⟨_, rfl⟩
  rw [← hR]
  obtain ⟨CS, hCS⟩ : ∃ C, C = nvL ks ++ [Value.slice va vn vc] := ⟨_, rfl⟩
  have hCl : CS.length = 17 := by rw [hCS, nvL_map]; simp [hkn]
  have hone : ∀ u ∈ CS, u.oneCell' = true := by
    intro u hu
    rw [hCS, nvL_map] at hu
    rcases List.mem_append.1 hu with hu | hu
    · obtain ⟨k, _, rfl⟩ := List.mem_map.1 hu
      rcases nv_shape k with h | ⟨_, _, h⟩ <;> rw [h] <;> rfl
    · rw [List.mem_singleton] at hu; rw [hu]; rfl
  have hat : ∀ (i : Nat) (hi : i < ks.length), CS[i]? = some (nv ks[i]) := by
    intro i hi
    rw [hCS, List.getElem?_append_left (by rw [nvL_map]; simpa using hi), nvL_map, List.getElem?_map, List.getElem?_eq_getElem hi]
    rfl
  have h16 : CS[16]? = some (.slice va vn vc) := by
    rw [hCS, List.getElem?_append_right (by rw [nvL_map]; simp [hkn]), nvL_map]
    simp [hkn]
  rw [← hCS]
  have z1 := as3_1
  have z2 := as3_2
  have z3 := as3_3
  have bA : Below w.heap.size w (w.alloc (.cells #[.nilIface, .nilIface, .nilIface, .nilIface, .nilIface, .nilIface, .nilIface, .nilIface, .nilIface, .nilIface, .nilIface, .nilIface, .nilIface, .nilIface, .nilIface, .nilIface, .slice none 0 0] 196)) := (Below.refl _ _).alloc (Nat.le_refl _) _
  have Hcl := Lib.hid hCl
  have Hone := Lib.hid hone
  have Hat := Lib.hid hat
  have H16 := Lib.hid h16
  clear hCS hCl hone hat h16
  cases q with
  | nil =>
    change R = v at hR
    subst hR
    simp only [List.length_nil] at hqn
    subst hqn
    go_enter Try.func80, Try.ntmps80
    go_wp2_with ((with_reducible show wpList _ _ _ (⟨none, Op.store _ _ (Operand.tmp 41), _, _, _, _⟩ :: _) _ _); refine wpList_storeA (o := ⟨none, _, _, _, _, _⟩) (by rfl) 196 (.tmp 8) (.tmp 41) (by rfl) w.heap.size CS (by rfl) (by rfl) aggFork (Blk.new w 196 [.nilIface, .nilIface, .nilIface, .nilIface, .nilIface, .nilIface, .nilIface, .nilIface, .nilIface, .nilIface, .nilIface, .nilIface, .nilIface, .nilIface, .nilIface, .nilIface, .slice none 0 0]) Hcl.out (by rfl) Hone.out bA (Nat.le_refl _) ?_; intro w4 h4 b4 g4; have m16 := (h4.cell 16).trans H16.out)
    go_ret
    exact ⟨va, vn, vc, rfl, b4, hv.below b4⟩
  | cons x q =>
    change R = getL ks x.toNat q at hR
    have hx16 := hx x List.mem_cons_self
    have hk : ks[x.toNat]? = some (ks[x.toNat]'(by omega)) := List.getElem?_eq_getElem (by omega)
    rw [getL_at hk] at hR
    have hcx := Hat.out x.toNat (by omega)
    have hxi : (x.toNat : Int) < 16 := by omega
    have hmk := List.getElem_mem (l := ks) (n := x.toNat) (by omega)
    have cg := fun (qa' : Option Addr) (n' c' : Nat) (u : World) (hu : Below w.heap.size w u) (hq' : Bytes u (.slice qa' n' c') q) => ih _ hmk d q qa' n' c' u ((hI _ hmk).kept hu) (hr _ hmk) (fun y hy => hx y (List.mem_cons_of_mem _ hy)) hq'
    rw [← hR] at cg
    obtain ⟨V, hV⟩ : ∃ V, V = nv (ks[x.toNat]'(by omega)) := ⟨_, rfl⟩
    rw [← hV] at hcx
    simp only [← hV] at cg
    have Cg := Lib.hid cg
    have Hcx := Lib.hid hcx
    have hq1 : 1 ≤ qn := by rw [← hqn]; simp
    have hne : ((qn : Int) == 0) = false := by rw [beq_eq_false_iff_ne]; omega
    have hlt0 : 0 < qn := by omega
    obtain ⟨bq, oq, rfl, hcq⟩ := Bytes.at hq 0 (by simp)
    simp only [List.getElem_cons_zero] at hcq
    obtain ⟨a5, c5, run5, row5⟩ := RowOf.from elU8 hq 1 hq1 1 rfl
    simp only [List.drop_succ_cons, List.drop_zero] at row5
    clear hR hqn hk hcx hmk cg hV hx hI ih hr hv hq hx16
    go_enter Try.func80, Try.ntmps80
    go_wp2_with ((with_reducible show wpList _ _ _ (⟨none, Op.store _ _ (Operand.tmp 41), _, _, _, _⟩ :: _) _ _); refine wpList_storeA (o := ⟨none, _, _, _, _, _⟩) (by rfl) 196 (.tmp 8) (.tmp 41) (by rfl) w.heap.size CS (by rfl) (by rfl) aggFork (Blk.new w 196 [.nilIface, .nilIface, .nilIface, .nilIface, .nilIface, .nilIface, .nilIface, .nilIface, .nilIface, .nilIface, .nilIface, .nilIface, .nilIface, .nilIface, .nilIface, .nilIface, .slice none 0 0]) Hcl.out (by rfl) Hone.out bA (Nat.le_refl _) ?_; intro w4 h4 b4 g4)
    have k1 := fun u : Ext w4 => u.cell (show w4.cell? ⟨bq, oq, none⟩ = some (.int .u8 (x.toNat : Int)) from by rw [b4.cell (World.block_lt_of_cell? w _ (by simpa using hcq))]; simpa using hcq)
    have k2 := fun u : Ext w4 => u.cell ((h4.cell x.toNat).trans Hcx.out)
    refine wp_region_typed w4 9 (by kernel_rfl) (by kernel_rfl) (Below.refl _ _) ?_; simp only [List.take_succ_cons, List.take_zero, List.take_nil]
    iterate 8 (refine wpX_step (by rfl) (fun K hK => ?_); go_simp; first | (refine hK _ ?_; clear hK K) | (apply Exists.intro; refine ⟨fun _ => ?_, hK _ ?_⟩; fail; clear hK K))
    refine wpX_rel 55 (SlG R) rfl (of_decide_eq_true rfl) (SlG.mono _) (fun w6 hw6 => ?_) ?_
    · simp only [relOf, List.filter_nil, forallRel]
      refine ⟨rfl, ?_⟩
      go_simp
      refine (Cg.out _ _ _ w6 (Below.then b4 hw6) ((row5.below b4).below hw6)).mono ?_
      rintro e w7 ⟨a, n, c, rfl, b7, h7⟩
      exact ⟨_, rfl, ⟨a, n, c, rfl, h7⟩, b7⟩
    refine wpX_nil ?_
    intro u2 hb2 v38 h38
    change wpList _ _ _ [_] _ _
    simp only [Act.put, List.setIfInBounds_toArray, List.set_cons_zero, List.set_cons_succ]
    obtain ⟨a, n, c, rfl, h7⟩ := h38
    go_wp2_with fail
    go_ret
    exact ⟨a, n, c, rfl, Below.then b4 hb2, h7⟩
end
theorem get_any : ∀ (n : Nat) (t : Nd), SizeOf.sizeOf t ≤ n → GtC t
  | 0, .mk kd pv p vv v kv ks, h => by simp at h
  | n + 1, .mk kd pv p vv v kv ks, h => by
    intro d q qa qn qc w hI hr hx hq
    have hks : ∀ k ∈ ks, GtC k := by
      intro k hk
      refine get_any n k ?_
      have := List.sizeOf_lt_of_mem hk
      simp only [Nd.mk.sizeOf_spec] at h
      omega
    obtain ⟨hp, hv, hk, hall⟩ := hI.inv
    obtain ⟨pa, pc, rfl, _, _⟩ := hp.form
    obtain ⟨va, vc, rfl, _, _⟩ := hv.form
    unfold rgt at hr
    unfold nv getP
    by_cases h0 : kd = 0
    · subst h0
      exact get_none qa qn qc w
    · rw [if_neg h0] at hr
      by_cases h1 : kd = 1
      · subst h1
        exact get_leaf pa va qa _ pc _ vc qn qc p v q w hp hv hq
      · rw [if_neg h1] at hr ⊢
        rw [if_neg h1]
        by_cases h2 : kd = 2
        · subst h2
          rw [if_pos rfl] at hr ⊢
          rw [if_pos rfl]
          simp only [Bool.and_eq_true, decide_eq_true_eq] at hr
          obtain ⟨⟨⟨⟨_, _⟩, hl⟩, hk3⟩, hrk⟩ := hr
          obtain ⟨k, rfl⟩ := List.length_eq_one_iff.1 hl
          simp only [List.getElem?_cons_zero, Option.map_some, Option.getD_some] at hk3
          rw [rgtL_iff] at hrk
          exact get_road pa qa _ pc qn qc p q w rfl hq.fits.1.symm hp hq k hk3 _ (hrk k (List.mem_singleton.2 rfl)) hx (hall k (List.mem_singleton.2 rfl)) (hks k (List.mem_singleton.2 rfl))
        · rw [if_neg h2] at hr ⊢
          rw [if_neg h2]
          by_cases h3 : kd = 3
          · subst h3
            rw [if_pos rfl] at hr ⊢
            rw [if_pos rfl]
            simp only [Bool.and_eq_true, decide_eq_true_eq] at hr
            obtain ⟨⟨⟨⟨hl, _⟩, _⟩, hrk⟩, _⟩ := hr
            rw [rgtL_iff] at hrk
            exact get_fork va qa _ vc qn qc v q w hq.fits.1.symm ks hl hv hq _ hrk hx hall hks
          · rw [if_neg h3] at hr
            simp at hr
end Go.Proofs.Ytikndlkfmjhgdaa
