/- vm.Address, the reference's QAddress, sumKey. -/
import Derived.Test.YtfedjbodcebdnaaItem1
import Derived.Test.YtfedjbodcebdnaaSum5
import Derived.Test.YtfedjbodcebdnaaWord16
set_option linter.unusedSimpArgs false
set_option linter.unusedVariables false
namespace Go.Proofs.Ytfedjbodcebdnaa
open Go.RowKit
theorem aggAddr : Agg Try.prog 31 8 := ⟨_, Try.underlying31, rfl, by kernel_rfl⟩
def z8b : List Value := List.replicate 8 (.int .u8 0)
theorem Blk.range {e : TypeId} {w : World} {g : Nat} {cs : List Value} (h : Blk e w g cs) (o n : Nat) : w.rangeAt g o ((cs.drop o).take n) := fun j v hv => by
  rw [h.cell]
  rw [List.getElem?_take] at hv
  split at hv
  · rwa [List.getElem?_drop] at hv
  · simp at hv
theorem Bytes.whole {w : World} {b off n c : Nat} {l : List UInt8} (h : Bytes w (.slice (some ⟨b, off, none⟩) n c) l) : w.rangeAt b off (l.map u8v) := by
  obtain ⟨_, _, _, hv, _, _, h3⟩ := h
  simp only [Value.slice.injEq] at hv
  obtain ⟨rfl, _, _⟩ := hv
  rcases h3 with ⟨h0, _⟩ | ⟨b', off', s, he, _, hc⟩
  · simp at h0
  · simp only [Option.some.injEq, Addr.mk.injEq] at he
    obtain ⟨rfl, rfl, _⟩ := he
    intro j u hu
    exact hc j u (by rw [flat_b8]; exact hu)
set_option maxHeartbeats 400000 in
set_option maxRecDepth 100000 in
theorem address_any (N : Nat) (w : World) : Calls Try.prog 41 #[.agg (wcs N).toArray] w fun e w' => e = .returned (.agg ((hcs N).drop 24).toArray) ∧ Below w.heap.size w w' := by
  have hz1 : Blk 31 ((w.alloc (.cells (wcs N).toArray 65)).alloc (.cells z8b.toArray 31)) (w.heap.size + 1) z8b := by
    have := Blk.new (w.alloc (.cells (wcs N).toArray 65)) 31 z8b
    simpa using this
  have hb1 := (boxW w N).alloc (.cells z8b.toArray 31)
  have hbel1 : Below w.heap.size w ((w.alloc (.cells (wcs N).toArray 65)).alloc (.cells z8b.toArray 31)) := ((Below.refl _ _).alloc (Nat.le_refl _) _).alloc (by simp) _
  have hl : (hcs N).length = 32 := hcs_len N
  have h1 : ∀ u ∈ hcs N, u.oneCell' = true := by unfold hcs; intro u hu; obtain ⟨x, _, rfl⟩ := List.mem_map.1 hu; rfl
  obtain ⟨C, hC⟩ : ∃ C, C = hcs N := ⟨_, rfl⟩
  have cb : ∀ x, Calls Try.prog 76 #[.agg (wcs N).toArray] x fun e w' => e = .returned (.agg (hcs N).toArray) ∧ Below x.heap.size x w' := fun x => bytes_any N x
  simp only [← hC] at hl h1 cb
  have hd8 : ((C.drop 24).take 8).length = 8 := by simp [hl]
  have hde : (C.drop 24).take 8 = C.drop 24 := List.take_of_length_le (by simp [hl])
  have h8 : ∀ u ∈ C.drop 24, u.oneCell' = true := fun u hu => h1 u (List.mem_of_mem_drop hu)
  have hs1 : ∀ g x, (Instr.sliceAt 28 (.pointer (some ⟨g, 0, none⟩)) (some (.int .i64 24)) none none).run Try.prog x = .ok (.slice (some ⟨g, 24, none⟩) 8 8) x := fun g x => by
    have := slice32' g 3 (by omega) .i64 x
    exact this
  have hs2 : ∀ g x, (Instr.arrayAt 31 (.slice (some ⟨g, 24, none⟩) 8 8)).run Try.prog x = .ok (.pointer (some ⟨g, 24, none⟩)) x := fun g x => run_arrayAt (P := Try.prog) (t := 31) (e := 5) (n := 8) (by kernel_rfl) (some ⟨g, 24, none⟩) 8 8 (Nat.le_refl _) x
  have Cb := Lib.hid cb
  have Hde := Lib.hid hde
  have H8 := Lib.hid h8
  have H1 := Lib.hid h1
  have Hl := Lib.hid hl
  rw [show hcs N = C from hC.symm]
  clear cb hC hde h8 h1 hl
  go_enter Try.func41, Try.ntmps41
  go_wp2_with (first
    | (refine wpList_loadA (o := ⟨some 4, _, _, _, _, _⟩) (by rfl) 65 (.tmp 1) (by rfl) w.heap.size (by rfl) aggWord hb1 (wcs_len _) ?_)
    | (go_at_call 76; (with_reducible refine (Cb.out _).mono ?_); rintro e w2 ⟨rfl, b2⟩; have hz2 := hz1.kept b2; have hbel2 := Below.then hbel1 b2; have hn2 := Blk.new w2 28 zh; have hz3 := hz2.alloc (.cells zh.toArray 28); have hbel3 := hbel2.alloc hbel2.size (.cells zh.toArray 28))
    | (refine wpList_storeA (by rfl) 28 (.tmp 3) (.tmp 5) (by rfl) w2.heap.size C (by rfl) (by rfl) aggHash' hn2 Hl.out (by rfl) H1.out (Below.refl _ _) (Nat.le_refl _) ?_; intro w4 hh4 _ hg4; have hz4 := hz3.grown hg4 (by have := hz2.lt; simp; omega); have hbel4 := hbel3.grown hg4 hbel3.size (fun j hj => by cases hj; exact hbel2.size); have hr4 := hh4.range 24 8; rw [Hde.out] at hr4)
    | (refine wpList_load_mid (op := ⟨some 8, _, _, _, _, _⟩) (by rfl) 31 (.tmp 7) (by rfl) w2.heap.size 24 (by rfl) (C.drop 24) _ hr4 Try.underlying31 rfl (by rw [List.length_drop, Hl.out]; kernel_rfl) ?_)
    | (refine wpList_storeA (by rfl) 31 (.tmp 2) (.tmp 8) (by rfl) (w.heap.size + 1) (C.drop 24) (by rfl) (by rfl) aggAddr hz4 (by rw [List.length_drop, Hl.out]) (by rfl) H8.out (Below.refl _ _) (Nat.le_refl _) ?_; intro w5 hh5 _ hg5; have hbel5 := hbel4.grown hg5 hbel4.size (fun j hj => by cases hj; omega)))
  exact bodyPost_ret (results_blk rfl _ _ (w.heap.size + 1) aggAddr hh5 (by rw [List.length_drop, Hl.out]) rfl) rfl ⟨rfl, hbel5⟩
set_option maxHeartbeats 400000 in
set_option maxRecDepth 100000 in
theorem qaddress_any (N : Nat) (w : World) : Calls Try.prog 42 #[.agg (wcs N).toArray] w fun e w' => e = .returned (.agg ((hcs N).drop 24).toArray) ∧ Below w.heap.size w w' := by
  have hz1 : Blk 31 ((w.alloc (.cells (wcs N).toArray 65)).alloc (.cells z8b.toArray 31)) (w.heap.size + 1) z8b := by
    have := Blk.new (w.alloc (.cells (wcs N).toArray 65)) 31 z8b
    simpa using this
  have hb1 := (boxW w N).alloc (.cells z8b.toArray 31)
  have hbel1 : Below w.heap.size w ((w.alloc (.cells (wcs N).toArray 65)).alloc (.cells z8b.toArray 31)) := ((Below.refl _ _).alloc (Nat.le_refl _) _).alloc (by simp) _
  have hl : (wb N).length = 32 := wb_len N
  have hcd : (hcs N).drop 24 = ((wb N).drop 24).map u8v := by unfold hcs; rw [List.map_drop]
  obtain ⟨L, hL⟩ : ∃ L, L = wb N := ⟨_, rfl⟩
  have cb : ∀ x, Calls Try.prog 77 #[.agg (wcs N).toArray] x fun e w' => ∃ v, e = .returned v ∧ OwnOf b8 1 5 w' x.heap.size v (wb N) ∧ Below x.heap.size x w' := fun x => wbytes_any N x
  simp only [← hL] at hl cb hcd
  have hd8 : (L.drop 24).length = 8 := by rw [List.length_drop, hl]
  have hc8 : ((L.drop 24).map u8v).length = 8 := by rw [List.length_map, hd8]
  have h8 : ∀ u ∈ (L.drop 24).map u8v, u.oneCell' = true := fun u hu => by obtain ⟨x, _, rfl⟩ := List.mem_map.1 hu; rfl
  have hs2 : ∀ a c x, (Instr.arrayAt 31 (.slice a 8 c)).run Try.prog x = .ok (.pointer a) x := fun a c x => run_arrayAt (P := Try.prog) (t := 31) (e := 5) (n := 8) (by kernel_rfl) a 8 c (Nat.le_refl _) x
  have Cb := Lib.hid cb
  have H8 := Lib.hid h8
  have Hl := Lib.hid hl
  have Hd8 := Lib.hid hd8
  have Hcd := Lib.hid hcd
  clear cb hL h8 hl hd8 hcd
  go_enter Try.func42, Try.ntmps42
  go_wp2_with (first
    | (refine wpList_loadA (o := ⟨some 3, _, _, _, _, _⟩) (by rfl) 65 (.tmp 1) (by rfl) w.heap.size (by rfl) aggWord hb1 (wcs_len _) ?_)
    | (go_at_call 77; (with_reducible refine (Cb.out _).mono ?_); rintro e w2 ⟨v2, rfl, o2, b2⟩; have hz2 := hz1.kept b2; have hbel2 := Below.then hbel1 b2; obtain ⟨a2, c2, rfl, _⟩ := o2.form' 32 Hl.out; obtain ⟨a3, c3, hsl, hr3⟩ := RowOf.from elU8 o2.row 24 (by omega) 24 rfl; obtain ⟨b3, off3, rfl, _⟩ := Bytes.at hr3 0 (by rw [Hd8.out]; omega); have hr5 := Bytes.whole hr3)
    | (refine wpList_load_mid (op := ⟨some 7, _, _, _, _, _⟩) (by rfl) 31 (.tmp 6) (by rfl) b3 off3 (by rfl) ((L.drop 24).map u8v) _ hr5 Try.underlying31 rfl (by rw [hc8]; kernel_rfl) ?_)
    | (refine wpList_storeA (by rfl) 31 (.tmp 2) (.tmp 7) (by rfl) (w.heap.size + 1) ((L.drop 24).map u8v) (by rfl) (by rfl) aggAddr hz2 hc8 (by rfl) H8.out (Below.refl _ _) (Nat.le_refl _) ?_; intro w5 hh5 _ hg5; have hbel5 := hbel2.grown hg5 hbel2.size (fun j hj => by cases hj; omega)))
  exact bodyPost_ret (results_blk rfl _ _ (w.heap.size + 1) aggAddr hh5 hc8 rfl) rfl ⟨by rw [Hcd.out], hbel5⟩
set_option maxHeartbeats 400000 in
set_option maxRecDepth 100000 in
theorem sumKey_any (a : Option Addr) (n c : Nat) (l : List UInt8) (hn : l.length = n) (w : World) (h : Bytes w (.slice a n c) l) (hl : n + 64 ≤ 140737488355328) :
    Calls Try.prog 83 #[.slice a n c] w fun e w' => ∃ v, e = .returned v ∧ Bytes w' v (sumB l) ∧ Below w.heap.size w w' := by
  have c1 : ∀ x, Bytes x (.slice a n c) l → Calls Try.prog 68 #[.slice a n c] x fun e w' => e = .returned (.agg (scs l).toArray) ∧ Below x.heap.size x w' := fun x h => ssum_any a n c l hn x h hl
  have h1 := scs_one l
  have hS : ∀ x g, Blk 28 x g (scs l) → Bytes x (.slice (some ⟨g, 0, none⟩) 32 32) (sumB l) := fun x g hb => Blk.row hb (sumB l) 32 32 (fun _ => rfl) (by unfold sumB; rw [outB_len]) (fun j u hu => by rw [flat_b8] at hu; exact hu) (Nat.le_refl _) (by unfold maxLen; omega)
  have hl := scs_len l
  obtain ⟨C, hC⟩ : ∃ C, C = scs l := ⟨_, rfl⟩
  simp only [← hC] at c1 h1 hl hS
  have C1 := Lib.hid c1
  have H1 := Lib.hid h1
  have HS := Lib.hid hS
  have Hl := Lib.hid hl
  clear c1 h1 hS hC hl hn
  go_enter Try.func83, Try.ntmps83
  go_wp2_with (first
    | (go_at_call 68; refine (C1.out _ h).mono ?_; rintro e w2 ⟨rfl, b2⟩; have hn2 := Blk.new w2 28 zh; have hbel3 := b2.alloc b2.size (.cells zh.toArray 28))
    | (refine wpList_storeA (by rfl) 28 (.tmp 3) (.tmp 5) (by rfl) w2.heap.size C (by rfl) (by rfl) aggHash' hn2 Hl.out (by rfl) H1.out (Below.refl _ _) (Nat.le_refl _) ?_; intro w4 hh4 _ hg4; have hbel4 := hbel3.grown hg4 hbel3.size (fun j hj => by cases hj; exact b2.size)))
  go_ret
  exact ⟨_, rfl, HS.out _ _ hh4, hbel4⟩
end Go.Proofs.Ytfedjbodcebdnaa
