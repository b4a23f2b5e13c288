/- tree.put at nothing; tree.putLeaf. -/
import Derived.Test.YtcgpjceopnfahaaPut9
set_option linter.unusedSimpArgs false
set_option linter.unusedVariables false
namespace Go.Proofs.Ytcgpjceopnfahaa
open Go.RowKit
theorem as0_3 (W : World) : (Instr.typeAssert .nilIface 50 102 true).run Try.prog W = .ok (.tuple #[.agg (List.replicate 16 Value.nilIface ++ [Value.slice none 0 0]).toArray, .bool false]) W := by kernel_rfl
theorem grows_path {l : List Rt} {T : Pn} (h : Grows l T) (B : Nat) (hB : ∀ r ∈ l, r.1.length ≤ B) : T.pth.length ≤ B := by
  cases h with
  | none => exact Nat.zero_le _
  | leaf p v hv hp => exact hB (p, v) (List.mem_singleton.2 rfl)
  | road p l k hp hn h hk =>
    obtain ⟨r, hr⟩ := List.exists_mem_of_ne_nil l (h.ne (by omega))
    have := hB _ (mem_pre (p := p) hr)
    simp only [List.length_append] at this
    show p.length ≤ B
    omega
  | fork v ls ks hl hk h hm => exact Nat.zero_le _
set_option maxHeartbeats 2000000 in
set_option maxRecDepth 100000 in
theorem put_nil (ka va : Option Addr) (kn kc vn vc : Nat) (p v : List UInt8) (hvl : v.length = vn) (w : World) (hkb : Bytes w (.slice ka kn kc) p) (hvb : Bytes w (.slice va vn vc) v) :
    Calls Try.prog 21 #[.nilIface, .slice ka kn kc, .slice va vn vc] w (NvPost (putQ nP p v) w) := by
  have z1 := as0_1
  have z2 := as0_2
  have z3 := as0_3
  have hput : putQ nP p v = if v = [] then nP else .mk 1 p v [] := by simp [putQ, nP]
  by_cases hv : v = []
  · subst hv
    simp only [List.length_nil] at hvl
    subst hvl
    rw [hput, if_pos rfl]
    go_enter Try.func21, Try.ntmps21
    go_wp2_with fail
    go_ret
    exact ⟨nilN, rfl, Below.refl _ _, IsNv.nil _, rfl⟩
  · rw [hput, if_neg hv]
    have hz : ((vn : Int) == 0) = false := by
      rw [beq_eq_false_iff_ne]
      have : 0 < v.length := List.length_pos_iff.2 hv
      omega
    clear hput hv hvl
    go_enter Try.func21, Try.ntmps21
    go_wp2_with fail
    go_ret
    exact ⟨.mk 1 (.slice ka kn kc) p (.slice va vn vc) v (.slice none 0 0) [], rfl, Below.refl _ _, .leaf _ _ _ _ _ _ hkb hvb, rfl⟩
theorem aggLeaf : Agg Try.prog 95 2 := ⟨_, Try.underlying95, rfl, by kernel_rfl⟩
set_option maxHeartbeats 2000000 in
set_option maxRecDepth 100000 in
theorem putLeaf_any (na ua ka va : Option Addr) (nn nc un uc kn kc vn vc : Nat) (q u p v : List UInt8) (hnl : q.length = nn) (hkl : p.length = kn) (hvl : v.length = vn) (hn1 : nn ≤ 1000000000) (hk1 : kn ≤ 1000000000) (hq : nibs q) (hp : nibs p) (w : World) (hnb : Bytes w (.slice na nn nc) q) (hub : Bytes w (.slice ua un uc) u) (hkb : Bytes w (.slice ka kn kc) p) (hvb : Bytes w (.slice va vn vc) v) :
    Calls Try.prog 44 #[.agg #[.slice na nn nc, .slice ua un uc], .slice ka kn kc, .slice va vn vc] w (NvPost (putQ (.mk 1 q u []) p v) w) := by
  have hput : putQ (.mk 1 q u []) p v = if com q p = kn ∧ com q p = nn then (if v = [] then nP else .mk 1 p v []) else if v = [] then .mk 1 q u [] else partQ (com q p) q (.mk 1 [] u []) p v := by simp only [putQ, if_true, hnl, hkl]
  have hcl := com_le q p
  obtain ⟨w1, hw1⟩ : ∃ w1, w1 = w.alloc (.cells #[.slice na nn nc, .slice ua un uc] 95) := ⟨_, rfl⟩
  have hz : Blk 95 w1 w.heap.size [.slice na nn nc, .slice ua un uc] := by rw [hw1]; exact Blk.new w _ _
  have hbel : Below w.heap.size w w1 := by rw [hw1]; exact (Below.refl _ _).alloc (Nat.le_refl _) _
  have cc := fun x (hx : Below w.heap.size w x) => common_any na ka nc kc q p x (by rw [hnl]; exact hnb.below hx) (by rw [hkl]; exact hkb.below hx)
  rw [hnl, hkl] at cc
  have cp := fun (x : World) (hx : Below w.heap.size w x) (hcp : com q p < nn ∨ com q p < kn) => part_any na ka va nn nc kn kc vn vc q p v (.mk 1 (.slice none 0 0) [] (.slice ua un uc) u (.slice none 0 0) []) (com q p) hnl hkl hvl hn1 hk1 rfl hq hp (show ([] : List UInt8).length ≤ 1000000000 from by simp) (fun _ => rfl) hcp x (hnb.below hx) (hkb.below hx) (hvb.below hx) (.leaf _ _ _ _ _ _ (RowOf.nil b8 1 _) (hub.below hx))
  have cn := fun (x : World) (hx : Below w.heap.size w x) => put_nil ka va kn kc vn vc p v hvl x (hkb.below hx) (hvb.below hx)
  have Cn := Lib.hid cn
  have Cp := Lib.hid cp
  have Cc := Lib.hid cc
  have Hput := Lib.hid hput
  have Hnb := Lib.hid hnb
  have Hub := Lib.hid hub
  obtain ⟨C, hC⟩ : ∃ C, C = com q p := ⟨_, rfl⟩
  have m0 := (hz.cell 0).trans (show _ = some (Value.slice na nn nc) from rfl)
  rw [hw1] at m0
  have Hw1 := Lib.hid hw1
  have HC := Lib.hid hC
  rw [← hC] at hcl
  rw [hnl, hkl] at hcl
  simp only [← hC] at Cc Cp Hput
  clear hw1 cc cp cn hput hC hnb hub hkb hvb hnl hkl hq hp
  have z1 := as0_1
  by_cases h1 : C = kn ∧ C = nn
  · obtain ⟨e1, e2⟩ := h1
    have hR : putQ (.mk 1 q u []) p v = putQ nP p v := by rw [Hput.out, if_pos ⟨e1, e2⟩]; simp [putQ, nP]
    rw [hR]
    have hz1 : ((C : Int) == (kn : Int)) = true := beq_iff_eq.2 (by omega)
    have hz2 : ((C : Int) == (nn : Int)) = true := beq_iff_eq.2 (by omega)
    clear hR e1 e2
    go_enter Try.func44, Try.ntmps44
    go_wp2_with (first
      | (go_at_call 74; (with_reducible refine (Cc.out _ (by rw [← Hw1.out]; exact hbel)).mono ?_); rintro e w2 ⟨rfl, mm, rfl⟩; rw [← Hw1.out]; have b2 : Below w.heap.size w (w1.drewN mm) := below_dr hbel mm; have m1 := ((hz.kept (below_dr (Below.refl _ _) mm)).cell 0).trans (show _ = some (Value.slice na nn nc) from rfl))
      | (go_at_call 21; (with_reducible refine (Cn.out _ b2).mono ?_); rintro e w3 ⟨t, rfl, b3, it, ct⟩; obtain ⟨VT, hVT⟩ : ∃ x, x = nv t := ⟨_, rfl⟩; rw [← hVT]; have HVT := Lib.hid hVT; clear hVT))
    go_ret
    exact ⟨t, by rw [← HVT.out]; rfl, Below.then b2 b3, it, ct⟩
  · have hcp : C < nn ∨ C < kn := by omega
    by_cases hv : v = []
    · subst hv
      simp only [List.length_nil] at hvl
      subst hvl
      have hR : putQ (.mk 1 q u []) p [] = .mk 1 q u [] := by rw [Hput.out, if_neg h1, if_pos rfl]
      rw [hR]
      have hzz : ¬ (((C : Int) == (kn : Int)) = true ∧ ((C : Int) == (nn : Int)) = true) := by rw [beq_iff_eq, beq_iff_eq]; omega
      clear hR
      have hfin : ∀ y : World, Below w.heap.size w y → NvPost (.mk 1 q u []) w (.returned (.iface 95 (.agg #[.slice na nn nc, .slice ua un uc]))) y := fun y hy => ⟨.mk 1 (.slice na nn nc) q (.slice ua un uc) u (.slice none 0 0) [], rfl, hy, .leaf _ _ _ _ _ _ (Hnb.out.below hy) (Hub.out.below hy), rfl⟩
      have Hfin := Lib.hid hfin
      clear hfin
      rcases (by omega : ¬ C = kn ∨ (C = kn ∧ ¬ C = nn)) with h2 | ⟨h2, h3⟩
      · have hz1 : ((C : Int) == (kn : Int)) = false := beq_eq_false_iff_ne.2 (by omega)
        clear h1 h2 hcp hzz
        go_enter Try.func44, Try.ntmps44
        go_wp2_with (first
          | (go_at_call 74; (with_reducible refine (Cc.out _ (by rw [← Hw1.out]; exact hbel)).mono ?_); rintro e w2 ⟨rfl, mm, rfl⟩; rw [← Hw1.out]; have b2 : Below w.heap.size w (w1.drewN mm) := below_dr hbel mm; have zz := hz.kept (below_dr (Below.refl _ _) mm); have m1 := (zz.cell 0).trans (show _ = some (Value.slice na nn nc) from rfl); have rr := zz.all0)
          | ((with_reducible show wpList _ _ _ (⟨some 31, _, _, _, _, _⟩ :: _) _ _); refine wpList_loadA (o := ⟨some 31, _, _, _, _, _⟩) (by rfl) 95 (.tmp 3) (by rfl) w.heap.size (by rfl) aggLeaf zz (by rfl) ?_))
        go_ret
        exact Hfin.out _ b2
      · have hz1 : ((C : Int) == (kn : Int)) = true := beq_iff_eq.2 (by omega)
        have hz2 : ((C : Int) == (nn : Int)) = false := beq_eq_false_iff_ne.2 (by omega)
        clear h1 h2 h3 hcp hzz
        go_enter Try.func44, Try.ntmps44
        go_wp2_with (first
          | (go_at_call 74; (with_reducible refine (Cc.out _ (by rw [← Hw1.out]; exact hbel)).mono ?_); rintro e w2 ⟨rfl, mm, rfl⟩; rw [← Hw1.out]; have b2 : Below w.heap.size w (w1.drewN mm) := below_dr hbel mm; have zz := hz.kept (below_dr (Below.refl _ _) mm); have m1 := (zz.cell 0).trans (show _ = some (Value.slice na nn nc) from rfl); have rr := zz.all0)
          | ((with_reducible show wpList _ _ _ (⟨some 31, _, _, _, _, _⟩ :: _) _ _); refine wpList_loadA (o := ⟨some 31, _, _, _, _, _⟩) (by rfl) 95 (.tmp 3) (by rfl) w.heap.size (by rfl) aggLeaf zz (by rfl) ?_))
        go_ret
        exact Hfin.out _ b2
    · have hR : putQ (.mk 1 q u []) p v = partQ C q (.mk 1 [] u []) p v := by rw [Hput.out, if_neg h1, if_neg hv]
      rw [hR]
      have hvz : ((vn : Int) == 0) = false := by
        rw [beq_eq_false_iff_ne]
        have : 0 < v.length := List.length_pos_iff.2 hv
        omega
      have CP : Hid (∀ x, Below w.heap.size w x → Calls Try.prog 75 #[.int .i64 (C : Int), .slice na nn nc, .iface 95 (.agg #[.slice none 0 0, .slice ua un uc]), .slice ka kn kc, .slice va vn vc] x (NvPost (partQ C q (.mk 1 [] u []) p v) x)) := Lib.hid (fun x hx => Cp.out x hx hcp)
      clear hR hv
      rcases (by omega : ¬ C = kn ∨ (C = kn ∧ ¬ C = nn)) with h2 | ⟨h2, h3⟩
      · have hz1 : ((C : Int) == (kn : Int)) = false := beq_eq_false_iff_ne.2 (by omega)
        clear h1 h2 hcp
        go_enter Try.func44, Try.ntmps44
        go_wp2_with (first
          | (go_at_call 74; (with_reducible refine (Cc.out _ (by rw [← Hw1.out]; exact hbel)).mono ?_); rintro e w2 ⟨rfl, mm, rfl⟩; rw [← Hw1.out]; have b2 : Below w.heap.size w (w1.drewN mm) := below_dr hbel mm; have zz := hz.kept (below_dr (Below.refl _ _) mm); have m1 := (zz.cell 0).trans (show _ = some (Value.slice na nn nc) from rfl); have m2 := (zz.cell 1).trans (show _ = some (Value.slice ua un uc) from rfl))
          | (go_at_call 75; (with_reducible refine (CP.out _ b2).mono ?_); rintro e w3 ⟨t, rfl, b3, it, ct⟩; obtain ⟨VT, hVT⟩ : ∃ x, x = nv t := ⟨_, rfl⟩; rw [← hVT]; have HVT := Lib.hid hVT; clear hVT))
        go_ret
        exact ⟨t, by rw [← HVT.out]; rfl, Below.then b2 b3, it, ct⟩
      · have hz1 : ((C : Int) == (kn : Int)) = true := beq_iff_eq.2 (by omega)
        have hz2 : ((C : Int) == (nn : Int)) = false := beq_eq_false_iff_ne.2 (by omega)
        clear h1 h2 h3 hcp
        go_enter Try.func44, Try.ntmps44
        go_wp2_with (first
          | (go_at_call 74; (with_reducible refine (Cc.out _ (by rw [← Hw1.out]; exact hbel)).mono ?_); rintro e w2 ⟨rfl, mm, rfl⟩; rw [← Hw1.out]; have b2 : Below w.heap.size w (w1.drewN mm) := below_dr hbel mm; have zz := hz.kept (below_dr (Below.refl _ _) mm); have m1 := (zz.cell 0).trans (show _ = some (Value.slice na nn nc) from rfl); have m2 := (zz.cell 1).trans (show _ = some (Value.slice ua un uc) from rfl))
          | (go_at_call 75; (with_reducible refine (CP.out _ b2).mono ?_); rintro e w3 ⟨t, rfl, b3, it, ct⟩; obtain ⟨VT, hVT⟩ : ∃ x, x = nv t := ⟨_, rfl⟩; rw [← hVT]; have HVT := Lib.hid hVT; clear hVT))
        go_ret
        exact ⟨t, by rw [← HVT.out]; rfl, Below.then b2 b3, it, ct⟩
end Go.Proofs.Ytcgpjceopnfahaa
