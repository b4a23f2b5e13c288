/- tx.Write (gen_tx3.py printed it). -/
import Derived.Test.YtnhbfnegpjkojaaTx2
set_option linter.unusedSimpArgs false
set_option linter.unusedVariables false
namespace Go.Proofs.Ytnhbfnegpjkojaa
open Go.RowKit
set_option maxHeartbeats 4000000 in
set_option maxRecDepth 100000 in
theorem xwrite_any (t : Txd) (k : t.Ok) (da : Option Addr) (dn dc : Nat) (w : World) (hd : Bytes w (.slice da dn dc) t.dat) : Calls Try.prog 38 #[.agg (txcs t (.slice da dn dc)).toArray] w fun e w' => ∃ v, e = .returned v ∧ OwnOf b8 1 5 w' w.heap.size v (wX t) ∧ Below w.heap.size w w' := by
  obtain ⟨X, hX⟩ : ∃ X, X = txcs t (.slice da dn dc) := ⟨_, rfl⟩
  obtain ⟨w1, hw1⟩ : ∃ w1, w1 = w.alloc (.cells (txcs t (.slice da dn dc)).toArray 77) := ⟨_, rfl⟩
  have hz : Blk 77 w1 w.heap.size (txcs t (.slice da dn dc)) := by rw [hw1]; exact Blk.new w _ _
  have hbel : Below w.heap.size w w1 := by rw [hw1]; exact (Below.refl _ _).alloc (Nat.le_refl _) _
  have Hf : Hid (∀ u, Below w1.heap.size w1 u → Bytes u (.slice (some ⟨w.heap.size, 0, none⟩) 8 8) t.frm) := Lib.hid fun u hu => (hz.kept hu).bytesAt 0 8 _ (txcs_frm k _) k.frm (by unfold maxLen; omega)
  have Ht : Hid (∀ u, Below w1.heap.size w1 u → Bytes u (.slice (some ⟨w.heap.size, 8, none⟩) 8 8) t.to) := Lib.hid fun u hu => (hz.kept hu).bytesAt 8 8 _ (txcs_to k _) k.to (by unfold maxLen; omega)
  have Hd : Hid (∀ u, Below w1.heap.size w1 u → Bytes u (.slice da dn dc) t.dat) := Lib.hid fun u hu => (hd.kept hbel).kept hu
  have k16 : ∀ u : In (fun u => Below w1.heap.size w1 u), u.val.cell? ⟨w.heap.size, 16, none⟩ = some (.bool t.mkb) := fun u => ((hz.kept u.held).cell 16).trans (txcs_mk k _)
  have k17 : ∀ u : In (fun u => Below w1.heap.size w1 u), u.val.cell? ⟨w.heap.size, 17, none⟩ = some (.int .u64 (t.non : Int)) := fun u => ((hz.kept u.held).cell 17).trans (txcs_non k _)
  have k18 : ∀ u : In (fun u => Below w1.heap.size w1 u), u.val.cell? ⟨w.heap.size, 18, none⟩ = some (.int .u64 (t.gas : Int)) := fun u => ((hz.kept u.held).cell 18).trans (txcs_gas k _)
  have k19 : ∀ u : In (fun u => Below w1.heap.size w1 u), u.val.cell? ⟨w.heap.size, 19, none⟩ = some (.int .u64 (t.pri : Int)) := fun u => ((hz.kept u.held).cell 19).trans (txcs_pri k _)
  have k24 : ∀ u : In (fun u => Below w1.heap.size w1 u), u.val.cell? ⟨w.heap.size, 24, none⟩ = some (.slice da dn dc) := fun u => ((hz.kept u.held).cell 24).trans (txcs_dat k _)
  have RV : w1.rangeAt w.heap.size 20 (wcs t.val) := by have := hz.range 20 4; rw [txcs_val k] at this; exact this
  have hwl := wcs_len t.val
  have cf := fun u => flag_any t.mkb u
  have cn := fun u => number_any t.non k.non u
  have cg := fun u => number_any t.gas k.gas u
  have cp := fun u => number_any t.pri k.pri u
  have cv : ∀ u : World, Calls Try.prog 93 #[.agg (wcs t.val).toArray] u _ := fun u => num_any t.val u
  obtain ⟨T8, h8⟩ : ∃ T, T = numB (mkN t.mkb) := ⟨_, rfl⟩
  obtain ⟨T11, h11⟩ : ∃ T, T = numB t.non := ⟨_, rfl⟩
  obtain ⟨T14, h14⟩ : ∃ T, T = numB t.gas := ⟨_, rfl⟩
  obtain ⟨T17, h17⟩ : ∃ T, T = numB t.pri := ⟨_, rfl⟩
  obtain ⟨T20, h20⟩ : ∃ T, T = numB t.val := ⟨_, rfl⟩
  have HL : Hid (T8.length ≤ 32 ∧ T11.length ≤ 32 ∧ T14.length ≤ 32 ∧ T17.length ≤ 32 ∧ T20.length ≤ 32) := Lib.hid (by rw [h8, h11, h14, h17, h20]; exact ⟨numB_32 _, numB_32 _, numB_32 _, numB_32 _, numB_32 _⟩)
  have HT : Hid (xTs t = [t.frm, t.to, T8, T11, T14, T17, T20, t.dat]) := Lib.hid (by rw [h8, h11, h14, h17, h20]; rfl)
  rw [← h8] at cf
  rw [← h11] at cn
  rw [← h14] at cg
  rw [← h17] at cp
  rw [← h20] at cv
  have s8 := fun off u => sl8 w.heap.size off u
  obtain ⟨WV, hWV⟩ : ∃ W, W = wcs t.val := ⟨_, rfl⟩
  rw [← hWV] at cv RV hwl
  have Cf := Lib.hid cf
  have Cn := Lib.hid cn
  have Cg := Lib.hid cg
  have Cp := Lib.hid cp
  have Cv := Lib.hid cv
  have Hw1 : Hid (w1 = w.alloc (.cells X.toArray 77)) := Lib.hid (by rw [hX]; exact hw1)
  have K := Lib.hid k
  rw [← hX]
  clear hw1 hX hz hd k cf cn cg cp cv h8 h11 h14 h17 h20 hWV
  go_enter Try.func38, Try.ntmps38
  go_wp2_with (rw [← Hw1.out])
  refine wp_region_h ((fun u => Below w1.heap.size w1 u)) (by kernel_rfl) ?_; intro u0 hu0; simp only [List.length_cons, List.length_nil, Nat.reduceAdd, List.replicate_succ, List.replicate_zero]
  have hS0 : Below w1.heap.size w1 u0 := (by rw [hu0]; exact (Below.refl _ _).drew)
  clear hu0
  (refine wpH_take 0 (by rfl) (by kernel_rfl) (by intro _ _ _ h; first | exact h | (cases h.1)) (by intro _ _ _ _ h; first | exact h | (cases h.1)) (by assumption) (fun K hK => ?_); simp only [List.setIfInBounds_toArray, List.set_cons_zero, List.set_cons_succ] at hK; go_simp; first | (refine hK _ ?_; clear hK K) | (apply Exists.intro; refine ⟨fun _ => rfl, hK _ ?_⟩; clear hK K)); (refine wpH_take 1 (by rfl) (by kernel_rfl) (by intro _ _ _ h; first | exact h | (cases h.1)) (by intro _ _ _ _ h; first | exact h | (cases h.1)) (by assumption) (fun K hK => ?_); simp only [List.setIfInBounds_toArray, List.set_cons_zero, List.set_cons_succ] at hK; go_simp; first | (refine hK _ ?_; clear hK K) | (apply Exists.intro; refine ⟨fun _ => rfl, hK _ ?_⟩; clear hK K)); (refine wpH_take 3 (by rfl) (by kernel_rfl) (by intro _ _ _ h; first | exact h | (cases h.1)) (by intro _ _ _ _ h; first | exact h | (cases h.1)) (by assumption) (fun K hK => ?_); simp only [List.setIfInBounds_toArray, List.set_cons_zero, List.set_cons_succ] at hK; go_simp; first | (refine hK _ ?_; clear hK K) | (apply Exists.intro; refine ⟨fun _ => rfl, hK _ ?_⟩; clear hK K)); (refine wpH_take 4 (by rfl) (by kernel_rfl) (by intro _ _ _ h; first | exact h | (cases h.1)) (by intro _ _ _ _ h; first | exact h | (cases h.1)) (by assumption) (fun K hK => ?_); simp only [List.setIfInBounds_toArray, List.set_cons_zero, List.set_cons_succ] at hK; go_simp; first | (refine hK _ ?_; clear hK K) | (apply Exists.intro; refine ⟨fun _ => rfl, hK _ ?_⟩; clear hK K)); (refine wpH_take 6 (by rfl) (by kernel_rfl) (by intro _ _ _ h; first | exact h | (cases h.1)) (by intro _ _ _ _ h; first | exact h | (cases h.1)) (by assumption) (fun K hK => ?_); simp only [List.setIfInBounds_toArray, List.set_cons_zero, List.set_cons_succ] at hK; go_simp; first | (refine hK _ ?_; clear hK K) | (apply Exists.intro; refine ⟨fun _ => rfl, hK _ ?_⟩; clear hK K)); (refine wpH_take 7 (by rfl) (by kernel_rfl) (by intro _ _ _ h; first | exact h | (cases h.1)) (by intro _ _ _ _ h; first | exact h | (cases h.1)) (by assumption) (fun K hK => ?_); simp only [List.setIfInBounds_toArray, List.set_cons_zero, List.set_cons_succ] at hK; go_simp; first | (refine hK _ ?_; clear hK K) | (apply Exists.intro; refine ⟨fun _ => rfl, hK _ ?_⟩; clear hK K)); (refine wpH_take 9 (by rfl) (by kernel_rfl) (by intro _ _ _ h; first | exact h | (cases h.1)) (by intro _ _ _ _ h; first | exact h | (cases h.1)) (by assumption) (fun K hK => ?_); simp only [List.setIfInBounds_toArray, List.set_cons_zero, List.set_cons_succ] at hK; go_simp; first | (refine hK _ ?_; clear hK K) | (apply Exists.intro; refine ⟨fun _ => rfl, hK _ ?_⟩; clear hK K)); (refine wpH_take 10 (by rfl) (by kernel_rfl) (by intro _ _ _ h; first | exact h | (cases h.1)) (by intro _ _ _ _ h; first | exact h | (cases h.1)) (by assumption) (fun K hK => ?_); simp only [List.setIfInBounds_toArray, List.set_cons_zero, List.set_cons_succ] at hK; go_simp; first | (refine hK _ ?_; clear hK K) | (apply Exists.intro; refine ⟨fun _ => rfl, hK _ ?_⟩; clear hK K)); (refine wpH_take 12 (by rfl) (by kernel_rfl) (by intro _ _ _ h; first | exact h | (cases h.1)) (by intro _ _ _ _ h; first | exact h | (cases h.1)) (by assumption) (fun K hK => ?_); simp only [List.setIfInBounds_toArray, List.set_cons_zero, List.set_cons_succ] at hK; go_simp; first | (refine hK _ ?_; clear hK K) | (apply Exists.intro; refine ⟨fun _ => rfl, hK _ ?_⟩; clear hK K)); (refine wpH_take 13 (by rfl) (by kernel_rfl) (by intro _ _ _ h; first | exact h | (cases h.1)) (by intro _ _ _ _ h; first | exact h | (cases h.1)) (by assumption) (fun K hK => ?_); simp only [List.setIfInBounds_toArray, List.set_cons_zero, List.set_cons_succ] at hK; go_simp; first | (refine hK _ ?_; clear hK K) | (apply Exists.intro; refine ⟨fun _ => rfl, hK _ ?_⟩; clear hK K)); (refine wpH_take 15 (by rfl) (by kernel_rfl) (by intro _ _ _ h; first | exact h | (cases h.1)) (by intro _ _ _ _ h; first | exact h | (cases h.1)) (by assumption) (fun K hK => ?_); simp only [List.setIfInBounds_toArray, List.set_cons_zero, List.set_cons_succ] at hK; go_simp; first | (refine hK _ ?_; clear hK K) | (apply Exists.intro; refine ⟨fun _ => rfl, hK _ ?_⟩; clear hK K)); (refine wpH_take 16 (by rfl) (by kernel_rfl) (by intro _ _ _ h; first | exact h | (cases h.1)) (by intro _ _ _ _ h; first | exact h | (cases h.1)) (by assumption) (fun K hK => ?_); simp only [List.setIfInBounds_toArray, List.set_cons_zero, List.set_cons_succ] at hK; go_simp; first | (refine hK _ ?_; clear hK K) | (apply Exists.intro; refine ⟨fun _ => rfl, hK _ ?_⟩; clear hK K)); (refine wpH_take 18 (by rfl) (by kernel_rfl) (by intro _ _ _ h; first | exact h | (cases h.1)) (by intro _ _ _ _ h; first | exact h | (cases h.1)) (by assumption) (fun K hK => ?_); simp only [List.setIfInBounds_toArray, List.set_cons_zero, List.set_cons_succ] at hK; go_simp; first | (refine hK _ ?_; clear hK K) | (apply Exists.intro; refine ⟨fun _ => rfl, hK _ ?_⟩; clear hK K))
  (refine wpH_take 19 (by rfl) (by kernel_rfl) (by intro _ _ _ h; first | exact h | (cases h.1)) (by intro _ _ _ _ h; first | exact h | (cases h.1)) (by assumption) (fun K hK => ?_); simp only [List.setIfInBounds_toArray, List.set_cons_zero, List.set_cons_succ] at hK; refine take_loadm (by rfl) 48 (.tmp 21) (by rfl) w.heap.size 20 (by rfl) aggWord hwl (fun u hu => World.rangeAt.below RV hu) (hK _ ?_); clear hK K; try simp only [Act.put, List.getElem_toArray, List.getElem_cons_zero, List.getElem_cons_succ, List.setIfInBounds_toArray, List.set_cons_zero, List.set_cons_succ])
  (refine wpH_take 22 (by rfl) (by kernel_rfl) (by intro _ _ _ h; first | exact h | (cases h.1)) (by intro _ _ _ _ h; first | exact h | (cases h.1)) (by assumption) (fun K hK => ?_); simp only [List.setIfInBounds_toArray, List.set_cons_zero, List.set_cons_succ] at hK; go_simp; first | (refine hK _ ?_; clear hK K) | (apply Exists.intro; refine ⟨fun _ => rfl, hK _ ?_⟩; clear hK K)); (refine wpH_take 23 (by rfl) (by kernel_rfl) (by intro _ _ _ h; first | exact h | (cases h.1)) (by intro _ _ _ _ h; first | exact h | (cases h.1)) (by assumption) (fun K hK => ?_); simp only [List.setIfInBounds_toArray, List.set_cons_zero, List.set_cons_succ] at hK; go_simp; first | (refine hK _ ?_; clear hK K) | (apply Exists.intro; refine ⟨fun _ => rfl, hK _ ?_⟩; clear hK K))
  clear k16 k17 k18 k19 k24 s8
  (refine wpH_only 2 (by rfl) (by kernel_rfl) (fun K hK => ?_); simp only [List.setIfInBounds_toArray, List.set_cons_zero, List.set_cons_succ] at hK; go_simp)
  refine (text_any _ _ _ _).mono ?_
  rintro e u1 ⟨rfl, b1⟩
  have hS1 := Below.then hS0 b1
  refine hK _ _ hS1 ?_; clear hK K
  try simp only [Act.put, List.getElem_toArray, List.getElem_cons_zero, List.getElem_cons_succ, List.setIfInBounds_toArray, List.set_cons_zero, List.set_cons_succ]
  (refine wpH_only 5 (by rfl) (by kernel_rfl) (fun K hK => ?_); simp only [List.setIfInBounds_toArray, List.set_cons_zero, List.set_cons_succ] at hK; go_simp)
  refine (text_any _ _ _ _).mono ?_
  rintro e u2 ⟨rfl, b2⟩
  have hS2 := Below.then hS1 b2
  refine hK _ _ hS2 ?_; clear hK K
  try simp only [Act.put, List.getElem_toArray, List.getElem_cons_zero, List.getElem_cons_succ, List.setIfInBounds_toArray, List.set_cons_zero, List.set_cons_succ]
  (refine wpH_only 8 (by rfl) (by kernel_rfl) (fun K hK => ?_); simp only [List.setIfInBounds_toArray, List.set_cons_zero, List.set_cons_succ] at hK; go_simp)
  refine (Cf.out u2).mono ?_
  rintro e u3 ⟨a8, n8, c8, rfl, t8, b3⟩
  have hS3 := Below.then hS2 b3
  refine hK _ _ hS3 ?_; clear hK K
  try simp only [Act.put, List.getElem_toArray, List.getElem_cons_zero, List.getElem_cons_succ, List.setIfInBounds_toArray, List.set_cons_zero, List.set_cons_succ]
  (refine wpH_only 11 (by rfl) (by kernel_rfl) (fun K hK => ?_); simp only [List.setIfInBounds_toArray, List.set_cons_zero, List.set_cons_succ] at hK; go_simp)
  refine (Cn.out u3).mono ?_
  rintro e u4 ⟨a11, n11, c11, rfl, t11, b4⟩
  have hS4 := Below.then hS3 b4
  refine hK _ _ hS4 ?_; clear hK K
  try simp only [Act.put, List.getElem_toArray, List.getElem_cons_zero, List.getElem_cons_succ, List.setIfInBounds_toArray, List.set_cons_zero, List.set_cons_succ]
  (refine wpH_only 14 (by rfl) (by kernel_rfl) (fun K hK => ?_); simp only [List.setIfInBounds_toArray, List.set_cons_zero, List.set_cons_succ] at hK; go_simp)
  refine (Cg.out u4).mono ?_
  rintro e u5 ⟨a14, n14, c14, rfl, t14, b5⟩
  have hS5 := Below.then hS4 b5
  refine hK _ _ hS5 ?_; clear hK K
  try simp only [Act.put, List.getElem_toArray, List.getElem_cons_zero, List.getElem_cons_succ, List.setIfInBounds_toArray, List.set_cons_zero, List.set_cons_succ]
  (refine wpH_only 17 (by rfl) (by kernel_rfl) (fun K hK => ?_); simp only [List.setIfInBounds_toArray, List.set_cons_zero, List.set_cons_succ] at hK; go_simp)
  refine (Cp.out u5).mono ?_
  rintro e u6 ⟨a17, n17, c17, rfl, t17, b6⟩
  have hS6 := Below.then hS5 b6
  refine hK _ _ hS6 ?_; clear hK K
  try simp only [Act.put, List.getElem_toArray, List.getElem_cons_zero, List.getElem_cons_succ, List.setIfInBounds_toArray, List.set_cons_zero, List.set_cons_succ]
  (refine wpH_only 20 (by rfl) (by kernel_rfl) (fun K hK => ?_); simp only [List.setIfInBounds_toArray, List.set_cons_zero, List.set_cons_succ] at hK; go_simp)
  refine (Cv.out u6).mono ?_
  rintro e u7 ⟨v20, rfl, o20, b7⟩
  have hS7 := Below.then hS6 b7
  obtain ⟨a20, c20, rfl, _⟩ := o20.form
  have t20 := o20.row
  refine hK _ _ hS7 ?_; clear hK K
  try simp only [Act.put, List.getElem_toArray, List.getElem_cons_zero, List.getElem_cons_succ, List.setIfInBounds_toArray, List.set_cons_zero, List.set_cons_succ]
  (refine wpH_only 21 (by rfl) (by kernel_rfl) (fun K hK => ?_); simp only [List.setIfInBounds_toArray, List.set_cons_zero, List.set_cons_succ] at hK; go_simp)
  refine (text_any _ _ _ _).mono ?_
  rintro e u8 ⟨rfl, b8⟩
  have hS8 := Below.then hS7 b8
  refine hK _ _ hS8 ?_; clear hK K
  try simp only [Act.put, List.getElem_toArray, List.getElem_cons_zero, List.getElem_cons_succ, List.setIfInBounds_toArray, List.set_cons_zero, List.set_cons_succ]
  (refine wpH_only 24 (by rfl) (by kernel_rfl) (fun K hK => ?_); simp only [List.setIfInBounds_toArray, List.set_cons_zero, List.set_cons_succ] at hK; go_simp)
  refine (text_any _ _ _ _).mono ?_
  rintro e u9 ⟨rfl, b9⟩
  have hS9 := Below.then hS8 b9
  refine hK _ _ hS9 ?_; clear hK K
  try simp only [Act.put, List.getElem_toArray, List.getElem_cons_zero, List.getElem_cons_succ, List.setIfInBounds_toArray, List.set_cons_zero, List.set_cons_succ]
  have x8 := RowOf.kept (RowOf.kept (RowOf.kept (RowOf.kept (RowOf.kept (RowOf.kept (t8.1) b4) b5) b6) b7) b8) b9
  have x11 := RowOf.kept (RowOf.kept (RowOf.kept (RowOf.kept (RowOf.kept (t11.1) b5) b6) b7) b8) b9
  have x14 := RowOf.kept (RowOf.kept (RowOf.kept (RowOf.kept (t14.1) b6) b7) b8) b9
  have x17 := RowOf.kept (RowOf.kept (RowOf.kept (t17.1) b7) b8) b9
  have x20 := RowOf.kept (RowOf.kept (t20) b8) b9
  have xf := Hf.out u9 hS9
  have xt := Ht.out u9 hS9
  have xd := Hd.out u9 hS9
  clear t11 t14 t17 t20 t8 o20
  (refine wpH_only 25 (by rfl) (by kernel_rfl) (fun K hK => ?_); simp only [List.setIfInBounds_toArray, List.set_cons_zero, List.set_cons_succ] at hK; go_simp)
  have r25 := Row.built icells_len u9 156 (txts [(Value.slice (some ⟨w.heap.size, 0, none⟩) 8 8, t.frm), (Value.slice (some ⟨w.heap.size, 8, none⟩) 8 8, t.to), (Value.slice a8 n8 c8, T8), (Value.slice a11 n11 c11, T11), (Value.slice a14 n14 c14, T14), (Value.slice a17 n17 c17, T17), (Value.slice a20 T20.length c20, T20), (Value.slice da dn dc, t.dat)]) 8 rfl (by unfold maxLen; omega)
  have b10 : Below u9.heap.size u9 (u9.alloc (.cells ((txts [(Value.slice (some ⟨w.heap.size, 0, none⟩) 8 8, t.frm), (Value.slice (some ⟨w.heap.size, 8, none⟩) 8 8, t.to), (Value.slice a8 n8 c8, T8), (Value.slice a11 n11 c11, T11), (Value.slice a14 n14 c14, T14), (Value.slice a17 n17 c17, T17), (Value.slice a20 T20.length c20, T20), (Value.slice da dn dc, t.dat)]).flatMap icells).toArray 156)) := (Below.refl _ _).alloc (Nat.le_refl _) _
  have hS10 := Below.then hS9 b10
  refine hK _ _ hS10 ?_; clear hK K
  obtain ⟨g25, hg25⟩ : ∃ g, g = u9.heap.size := ⟨_, rfl⟩
  change RowOf icells 3 _ (Value.slice (some ⟨u9.heap.size, 0, none⟩) 8 8) _ at r25
  obtain ⟨u10, hu10⟩ : ∃ x, x = u9.alloc (.cells ((txts [(Value.slice (some ⟨w.heap.size, 0, none⟩) 8 8, t.frm), (Value.slice (some ⟨w.heap.size, 8, none⟩) 8 8, t.to), (Value.slice a8 n8 c8, T8), (Value.slice a11 n11 c11, T11), (Value.slice a14 n14 c14, T14), (Value.slice a17 n17 c17, T17), (Value.slice a20 T20.length c20, T20), (Value.slice da dn dc, t.dat)]).flatMap icells).toArray 156) := ⟨_, rfl⟩
  rw [← hu10] at hS10 b10 r25
  rw [← hg25] at r25
  change wpH _ _ _ _ _ _ _ (u9.alloc (.cells ((txts [(Value.slice (some ⟨w.heap.size, 0, none⟩) 8 8, t.frm), (Value.slice (some ⟨w.heap.size, 8, none⟩) 8 8, t.to), (Value.slice a8 n8 c8, T8), (Value.slice a11 n11 c11, T11), (Value.slice a14 n14 c14, T14), (Value.slice a17 n17 c17, T17), (Value.slice a20 T20.length c20, T20), (Value.slice da dn dc, t.dat)]).flatMap icells).toArray 156))
  rw [← hu10]
  try rw [← hg25]
  clear hu10 hg25
  try simp only [Act.put, List.getElem_toArray, List.getElem_cons_zero, List.getElem_cons_succ, List.setIfInBounds_toArray, List.set_cons_zero, List.set_cons_succ]
  (refine wpH_only 26 (by rfl) (by kernel_rfl) (fun K hK => ?_); simp only [List.setIfInBounds_toArray, List.set_cons_zero, List.set_cons_succ] at hK; go_simp)
  refine (list_any _ _ _ _).mono ?_
  rintro e u11 ⟨rfl, b11⟩
  have hS11 := Below.then hS10 b11
  refine hK _ _ hS11 ?_; clear hK K
  try simp only [Act.put, List.getElem_toArray, List.getElem_cons_zero, List.getElem_cons_succ, List.setIfInBounds_toArray, List.set_cons_zero, List.set_cons_succ]
  have hI : IsItm u11 (lst (.slice (some ⟨g25, 0, none⟩) 8 8) (txts [(Value.slice (some ⟨w.heap.size, 0, none⟩) 8 8, t.frm), (Value.slice (some ⟨w.heap.size, 8, none⟩) 8 8, t.to), (Value.slice a8 n8 c8, T8), (Value.slice a11 n11 c11, T11), (Value.slice a14 n14 c14, T14), (Value.slice a17 n17 c17, T17), (Value.slice a20 T20.length c20, T20), (Value.slice da dn dc, t.dat)])) := IsItm.lst (RowOf.kept r25 b11) (txts_is (fun p hp => by
    simp only [List.mem_cons, List.not_mem_nil, or_false] at hp
    rcases hp with rfl | rfl | rfl | rfl | rfl | rfl | rfl | rfl
    · exact RowOf.kept (RowOf.kept xf b10) b11
    · exact RowOf.kept (RowOf.kept xt b10) b11
    · exact RowOf.kept (RowOf.kept x8 b10) b11
    · exact RowOf.kept (RowOf.kept x11 b10) b11
    · exact RowOf.kept (RowOf.kept x14 b10) b11
    · exact RowOf.kept (RowOf.kept x17 b10) b11
    · exact RowOf.kept (RowOf.kept x20 b10) b11
    · exact RowOf.kept (RowOf.kept xd b10) b11))
  have hbk : bulkI (lst (.slice (some ⟨g25, 0, none⟩) 8 8) (txts [(Value.slice (some ⟨w.heap.size, 0, none⟩) 8 8, t.frm), (Value.slice (some ⟨w.heap.size, 8, none⟩) 8 8, t.to), (Value.slice a8 n8 c8, T8), (Value.slice a11 n11 c11, T11), (Value.slice a14 n14 c14, T14), (Value.slice a17 n17 c17, T17), (Value.slice a20 T20.length c20, T20), (Value.slice da dn dc, t.dat)])) ≤ 1049000 := by
    rw [bulk_lst, bulkL_txts]
    simp only [List.map_cons, List.map_nil, List.sum_cons, List.sum_nil]
    have h1 := HL.out
    have h2 := K.out.frm
    have h3 := K.out.to
    have h4 := K.out.dat
    omega
  have hE : encI (lst (.slice (some ⟨g25, 0, none⟩) 8 8) (txts [(Value.slice (some ⟨w.heap.size, 0, none⟩) 8 8, t.frm), (Value.slice (some ⟨w.heap.size, 8, none⟩) 8 8, t.to), (Value.slice a8 n8 c8, T8), (Value.slice a11 n11 c11, T11), (Value.slice a14 n14 c14, T14), (Value.slice a17 n17 c17, T17), (Value.slice a20 T20.length c20, T20), (Value.slice da dn dc, t.dat)])) = wX t := by rw [encI_lst_txts]; unfold wX; rw [HT.out]; rfl
  have enc := encode_any 1049000 (lst (.slice (some ⟨g25, 0, none⟩) 8 8) (txts [(Value.slice (some ⟨w.heap.size, 0, none⟩) 8 8, t.frm), (Value.slice (some ⟨w.heap.size, 8, none⟩) 8 8, t.to), (Value.slice a8 n8 c8, T8), (Value.slice a11 n11 c11, T11), (Value.slice a14 n14 c14, T14), (Value.slice a17 n17 c17, T17), (Value.slice a20 T20.length c20, T20), (Value.slice da dn dc, t.dat)])) u11 hbk (by omega) hI
  have Enc : Hid (Calls Try.prog 88 #[.agg #[.bool true, .slice none 0 0, .slice (some ⟨g25, 0, none⟩) 8 8]] u11 (EncPost (lst (.slice (some ⟨g25, 0, none⟩) 8 8) (txts [(Value.slice (some ⟨w.heap.size, 0, none⟩) 8 8, t.frm), (Value.slice (some ⟨w.heap.size, 8, none⟩) 8 8, t.to), (Value.slice a8 n8 c8, T8), (Value.slice a11 n11 c11, T11), (Value.slice a14 n14 c14, T14), (Value.slice a17 n17 c17, T17), (Value.slice a20 T20.length c20, T20), (Value.slice da dn dc, t.dat)])) u11)) := Lib.hid enc
  have HE := Lib.hid hE
  clear hI hbk hE enc r25 x8 x11 x14 x17 x20 xf xt xd
  (refine wpH_only 27 (by rfl) (by kernel_rfl) (fun K hK => ?_); simp only [List.setIfInBounds_toArray, List.set_cons_zero, List.set_cons_succ] at hK; go_simp)
  refine (Enc.out).mono ?_
  rintro e u12 ⟨v27, rfl, o27, b12⟩
  have hS12 := Below.then hS11 b12
  rw [HE.out] at o27
  refine hK _ _ hS12 ?_; clear hK K
  try simp only [Act.put, List.getElem_toArray, List.getElem_cons_zero, List.getElem_cons_succ, List.setIfInBounds_toArray, List.set_cons_zero, List.set_cons_succ]
  (refine wpH_take 28 (by rfl) (by kernel_rfl) (by intro _ _ _ h; first | exact h | (cases h.1)) (by intro _ _ _ _ h; first | exact h | (cases h.1)) (by assumption) (fun K hK => ?_); simp only [List.setIfInBounds_toArray, List.set_cons_zero, List.set_cons_succ] at hK; go_simp; first | (refine hK _ ?_; clear hK K) | (apply Exists.intro; refine ⟨fun _ => rfl, hK _ ?_⟩; clear hK K))
  refine wpH_done (by kernel_rfl) ?_
  go_wp2_with fail
  go_ret
  exact ⟨v27, rfl, OwnOf.lower o27 (Nat.le_trans hbel.size hS11.size), Below.then hbel hS12⟩
end Go.Proofs.Ytnhbfnegpjkojaa
