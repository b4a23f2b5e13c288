/- tree.putRoad. -/
import Derived.Test.YtcgpjceopnfahaaPut10
set_option linter.unusedSimpArgs false
set_option linter.unusedVariables false
namespace Go.Proofs.Ytcgpjceopnfahaa
open Go.RowKit
/-- the contract of put, at a node -/
def PutC (k : Nd) : Prop := ∀ (ka va : Option Addr) (kn kc vn vc : Nat) (p v : List UInt8) (w : World), p.length = kn → v.length = vn → kn ≤ 1000000 → nibs p → IsNv w k → Bytes w (.slice ka kn kc) p → Bytes w (.slice va vn vc) v → Calls Try.prog 21 #[nv k, .slice ka kn kc, .slice va vn vc] w (NvPost (putQ (clN k) p v) w)
theorem aggRoad : Agg Try.prog 98 2 := ⟨_, Try.underlying98, rfl, by kernel_rfl⟩
set_option maxHeartbeats 4000000 in
set_option maxRecDepth 100000 in
theorem putRoad_any (na ka va : Option Addr) (nn nc kn kc vn vc : Nat) (q p v : List UInt8) (k : Nd) (hk3 : k.kd = 3) (ih : PutC k) (hnl : q.length = nn) (hkl : p.length = kn) (hvl : v.length = vn) (hn1 : nn ≤ 1000000000) (hk1 : kn ≤ 1000000) (hq : nibs q) (hp : nibs p) (hpb : (putQ (clN k) (p.drop nn) v).pth.length ≤ 1000000000) (hkp : k.path.length ≤ 1000000000) (w : World) (hnb : Bytes w (.slice na nn nc) q) (hkb : Bytes w (.slice ka kn kc) p) (hvb : Bytes w (.slice va vn vc) v) (hk : IsNv w k) :
    Calls Try.prog 45 #[.agg #[.slice na nn nc, nv k], .slice ka kn kc, .slice va vn vc] w (NvPost (putQ (.mk 2 q [] [clN k]) p v) w) := by
  have hput : putQ (.mk 2 q [] [clN k]) p v = if com q p = nn then behindQ q (putQ (clN k) (p.drop nn) v) else if v = [] then .mk 2 q [] [clN k] else partQ (com q p) q (clN k) p v := by
    simp only [putQ, hnl]
    rw [if_neg (by decide), if_pos trivial, putQL_set]
    by_cases h : com q p = nn
    · rw [if_pos h, if_pos h, h]; rfl
    · rw [if_neg h, if_neg h]; rfl
  have hcl := com_le q p
  rw [hnl, hkl] at hcl
  obtain ⟨X, hX⟩ := nv_fork hk3
  obtain ⟨w1, hw1⟩ : ∃ w1, w1 = w.alloc (.cells #[.slice na nn nc, .iface 102 X] 98) := ⟨_, rfl⟩
  have hz : Blk 98 w1 w.heap.size [.slice na nn nc, .iface 102 X] := by rw [hw1]; exact Blk.new w _ _
  have hbel : Below w.heap.size w w1 := by rw [hw1]; exact (Below.refl _ _).alloc (Nat.le_refl _) _
  have cc := fun x (hx : Below w.heap.size w x) => common_any na ka nc kc q p x (by rw [hnl]; exact hnb.below hx) (by rw [hkl]; exact hkb.below hx)
  rw [hnl, hkl] at cc
  have cp := fun (x : World) (hx : Below w.heap.size w x) (hcp : com q p < nn) => part_any na ka va nn nc kn kc vn vc q p v k (com q p) hnl hkl hvl hn1 (by omega) rfl hq hp hkp (fun e => by omega) (.inl hcp) x (hnb.below hx) (hkb.below hx) (hvb.below hx) (hk.kept hx)
  have cb := fun (x : World) (hx : Below w.heap.size w x) (t : Nd) (ht : IsNv x t) (hc : clN t = putQ (clN k) (p.drop nn) v) => behind_any na nn nc q hnl hn1 t (by unfold Nd.path; rw [hc]; exact hpb) x (hnb.below hx) ht
  have hret := fun (x : World) (hx : Below w.heap.size w x) => show NvPost (.mk 2 q [] [clN k]) w (.returned (.iface 98 (.agg #[.slice na nn nc, nv k]))) x from ⟨.mk 2 (.slice na nn nc) q (.slice none 0 0) [] (.slice none 0 0) [k], rfl, hx, .road _ _ _ _ _ _ (hnb.below hx) hk3 (hk.kept hx), rfl⟩
  have cput := fun (x : World) (hx : Below w.heap.size w x) (a5 : Option Addr) (c5 : Nat) (hr : Bytes x (.slice a5 (kn - nn) c5) (p.drop nn)) => ih a5 va (kn - nn) c5 vn vc (p.drop nn) v x (by rw [List.length_drop, hkl]) hvl (by omega) (fun y hy => hp y (List.mem_of_mem_drop hy)) (hk.kept hx) hr (hvb.below hx)
  rw [hX] at hret cp cput ⊢
  have Hret := Lib.hid hret
  have Cput := Lib.hid cput
  have Cb := Lib.hid cb
  have Cp := Lib.hid cp
  have Cc := Lib.hid cc
  have Hput := Lib.hid hput
  have Hkb := Lib.hid hkb
  have m0 := (hz.cell 0).trans (show _ = some (Value.slice na nn nc) from rfl)
  rw [hw1] at m0
  have Hw1 := Lib.hid hw1
  obtain ⟨C, hC⟩ : ∃ C, C = com q p := ⟨_, rfl⟩
  rw [← hC] at hcl
  simp only [← hC] at Cc Cp Hput
  clear hw1 cc cp cb cput hret hput hC hnb hkb hvb hnl hkl hq hp hk hk3 ih hpb hkp hX
  by_cases h1 : C = nn
  · have hR : putQ (.mk 2 q [] [clN k]) p v = behindQ q (putQ (clN k) (p.drop nn) v) := by rw [Hput.out, if_pos h1]
    rw [hR]
    have hz1 : ((C : Int) == (nn : Int)) = true := beq_iff_eq.2 (by omega)
    obtain ⟨a5, c5, r5, row5⟩ := RowOf.from elU8 Hkb.out nn (by omega) (C : Int) (by omega)
    have Row5 := Lib.hid row5
    have hck : (C : Int) ≤ (kn : Int) := by omega
    clear hR h1 row5
    go_enter Try.func45, Try.ntmps45
    go_wp2_with (go_at_call 74; (with_reducible refine (Cc.out _ (by rw [← Hw1.out]; exact hbel)).mono ?_); rintro e w2 ⟨rfl, mm, rfl⟩; rw [← Hw1.out]; have b2 : Below w.heap.size w (w1.drewN mm) := below_dr hbel mm; have zz := hz.kept (below_dr (Below.refl _ _) mm); have m1 := (zz.cell 0).trans (show _ = some (Value.slice na nn nc) from rfl))
    have k0 := fun u : Ext (w1.drewN mm) => u.cell m1
    have k1 := fun u : Ext (w1.drewN mm) => u.cell ((zz.cell 1).trans (show _ = some (Value.iface 102 X) from rfl))
    refine wp_region_typed (w1.drewN mm) 10 (by kernel_rfl) (by kernel_rfl) (Below.refl _ _) ?_; simp only [List.take_succ_cons, List.take_zero, List.take_nil]
    iterate 8 (refine wpX_step (by rfl) (fun K hK => ?_); go_simp; first | (refine hK _ ?_; clear hK K) | (apply Exists.intro; refine ⟨fun _ => ?_, hK _ ?_⟩; exact r5 _ _; clear hK K))
    refine wpX_rel 26 (NvT (putQ (clN k) (p.drop nn) v)) rfl (of_decide_eq_true rfl) (NvT.mono _) (fun w6 hw6 => ?_) ?_
    · simp only [relOf, List.filter_nil, forallRel]
      refine ⟨rfl, ?_⟩
      go_simp
      refine (Cput.out w6 (Below.then b2 hw6) a5 c5 (Row5.out.below (Below.then b2 hw6))).mono ?_
      rintro e w7 ⟨t7, rfl, b7, i7, c7⟩
      exact ⟨_, rfl, ⟨t7, rfl, i7, c7⟩, b7⟩
    refine wpX_rel 27 (NvT (behindQ q (putQ (clN k) (p.drop nn) v))) rfl (of_decide_eq_true rfl) (NvT.mono _) (fun w6 hw6 => ?_) ?_
    · change forallRel w6 [(26, _)] _ _
      rintro v26 ⟨t6, rfl, i6, c6⟩
      simp only [forallRel]
      refine ⟨rfl, ?_⟩
      go_simp
      refine (Cb.out w6 (Below.then b2 hw6) t6 i6 c6).mono ?_
      rintro e w7 ⟨t7, rfl, b7, i7, c7⟩
      exact ⟨_, rfl, ⟨t7, rfl, i7, by rw [c7, c6]⟩, b7⟩
    refine wpX_nil ?_
    intro u5 hu5 v26 _ v27 h27
    change wpList _ _ _ [_] _ _
    simp only [Act.put, List.setIfInBounds_toArray, List.set_cons_zero, List.set_cons_succ]
    obtain ⟨t7, rfl, i7, c7⟩ := h27
    obtain ⟨V7, hV7⟩ : ∃ V, V = nv t7 := ⟨_, rfl⟩
    rw [← hV7]
    have HV7 := Lib.hid hV7
    clear hV7
    go_wp2_with fail
    go_ret
    exact ⟨t7, by rw [← HV7.out]; rfl, Below.then b2 hu5, i7, c7⟩
  · have hz1 : ((C : Int) == (nn : Int)) = false := beq_eq_false_iff_ne.2 (by omega)
    by_cases hv : v = []
    · have hR : putQ (.mk 2 q [] [clN k]) p v = .mk 2 q [] [clN k] := by rw [Hput.out, if_neg h1, if_pos hv]
      rw [hR]
      have hv0 : vn = 0 := by rw [← hvl, hv]; rfl
      subst hv0
      clear hR hv h1 hvl
      go_enter Try.func45, Try.ntmps45
      go_wp2_with (first
        | (go_at_call 74; (with_reducible refine (Cc.out _ (by rw [← Hw1.out]; exact hbel)).mono ?_); rintro e w2 ⟨rfl, mm, rfl⟩; rw [← Hw1.out]; have b2 : Below w.heap.size w (w1.drewN mm) := below_dr hbel mm; have zz := hz.kept (below_dr (Below.refl _ _) mm); have m1 := (zz.cell 0).trans (show _ = some (Value.slice na nn nc) from rfl))
        | ((with_reducible show wpList _ _ _ (⟨some 32, _, _, _, _, _⟩ :: _) _ _); refine wpList_loadA (o := ⟨some 32, _, _, _, _, _⟩) (by rfl) 98 (.tmp 3) (by rfl) w.heap.size (by rfl) aggRoad zz (by rfl) ?_))
      go_ret
      exact Hret.out _ b2
    · have hR : putQ (.mk 2 q [] [clN k]) p v = partQ C q (clN k) p v := by rw [Hput.out, if_neg h1, if_neg hv]
      rw [hR]
      have hvz : ((vn : Int) == 0) = false := by
        rw [beq_eq_false_iff_ne]
        have : 0 < v.length := List.length_pos_iff.2 hv
        omega
      have CP := Lib.hid (fun (x : World) (hx : Below w.heap.size w x) => Cp.out x hx (by omega))
      clear hR hv h1
      go_enter Try.func45, Try.ntmps45
      go_wp2_with (first
        | (go_at_call 74; (with_reducible refine (Cc.out _ (by rw [← Hw1.out]; exact hbel)).mono ?_); rintro e w2 ⟨rfl, mm, rfl⟩; rw [← Hw1.out]; have b2 : Below w.heap.size w (w1.drewN mm) := below_dr hbel mm; have zz := hz.kept (below_dr (Below.refl _ _) mm); have m1 := (zz.cell 0).trans (show _ = some (Value.slice na nn nc) from rfl); have m2 := (zz.cell 1).trans (show _ = some (Value.iface 102 X) from rfl))
        | (go_at_call 75; (with_reducible refine (CP.out _ b2).mono ?_); rintro e w3 ⟨t, rfl, b3, it, ct⟩; obtain ⟨VT, hVT⟩ : ∃ x, x = nv t := ⟨_, rfl⟩; rw [← hVT]; have HVT := Lib.hid hVT; clear hVT))
      go_ret
      exact ⟨t, by rw [← HVT.out]; rfl, Below.then b2 b3, it, ct⟩
end Go.Proofs.Ytcgpjceopnfahaa
