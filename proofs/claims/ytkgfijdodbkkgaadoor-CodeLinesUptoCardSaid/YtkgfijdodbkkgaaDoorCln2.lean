/- strings.Cut and strings.SplitN at a blank. -/
import Derived.Test.YtkgfijdodbkkgaaDoorCln1
import Derived.Test.YtkgfijdodbkkgaaDoorCname4
import Derived.Shelf.Strings.SplitShaped
import Derived.Shelf.Strings.Shaped
namespace Go.Proofs
open Go.Shelf
shelf_lay LaysM.n145 Nm 145 at Tryd as Tryd.laysCut
shelf_lay LaysM.n147 Nm 147 at Tryd as Tryd.laysSplitN
end Go.Proofs
set_option linter.unusedSimpArgs false
set_option linter.unusedVariables false
namespace Go.Proofs.YtkgfijdodbkkgaaDoor
open Go.RowKit Go.Shelf
/-- internal/bytealg.MaxLen holds some number -/
def MaxHas (w : World) : Prop := ∃ m, w.cell? ⟨2, 0, none⟩ = some (.int .i64 m)
theorem MaxHas.below {w w' : World} (h : MaxHas w) (hb : Below w.heap.size w w') : MaxHas w' := ⟨h.choose, (hb.cell (World.block_lt_of_cell? w _ h.choose_spec)).trans h.choose_spec⟩
theorem MaxHas.shaped {w : World} (h : w.ShapedOpen Tryd.prog) : MaxHas w := Tryd.laysCut.s1_3 w h
theorem cutb_any (s : List UInt8) (hs : s.length < 4294967281) (w : World) (hm : MaxHas w) : Calls Tryd.prog 18 #[.string ⟨s.toArray⟩, .string ⟨#[32]⟩] w fun e w' => e = .returned (.tuple #[.string ⟨(cutP s).1.toArray⟩, .string ⟨(cutP s).2.1.toArray⟩, .bool (cutP s).2.2]) ∧ Below w.heap.size w w' := by
  refine (Any.strings_Cut { Tryd.laysCut with } ⟨s.toArray⟩ ⟨#[32]⟩ hm.choose w (by show s.length < _; exact hs) hm.choose_spec).mono ?_
  rintro e w' ⟨rfl, n, rfl⟩
  refine ⟨?_, (⟨(Below.refl w.heap.size w).os, (Below.refl w.heap.size w).tape, (Below.refl w.heap.size w).output, (Below.refl w.heap.size w).size, (Below.refl w.heap.size w).block⟩ : Below w.heap.size w (w.drewN n))⟩
  have h : Lib.cut s [32] = cutP s := lib_cut s
  show Ending.returned (.tuple #[.string ⟨(Lib.cut s [32]).1.toArray⟩, .string ⟨(Lib.cut s [32]).2.1.toArray⟩, .bool (Lib.cut s [32]).2.2]) = _
  rw [h]
theorem two_any (s : List UInt8) (hs : s.length < 4294967281) (w : World) (hm : MaxHas w) : Calls Tryd.prog 10 #[.string ⟨s.toArray⟩, .string ⟨#[32]⟩, .int .i64 2] w fun e w' =>
    ∃ c, e = .returned (.slice (some ⟨w.heap.size, 0, none⟩) (twoP s).length c) ∧ Below w.heap.size w w' ∧ RowOf fcell 1 w' (.slice (some ⟨w.heap.size, 0, none⟩) (twoP s).length c) (twoP s) := by
  refine (Any.strings_SplitN { Tryd.laysSplitN with } Tryd.laysSplitN.i9 ⟨s.toArray⟩ ⟨#[32]⟩ 2 hm.choose w (by show s.length < _; exact hs) hm.choose_spec (by decide) (by decide) (by decide)).mono ?_
  rintro e w' ⟨rfl, rfl⟩
  obtain ⟨D, hD⟩ : ∃ D, D = Lib.splitB ⟨#[32]⟩ 0 (min 2 ((⟨s.toArray⟩ : ByteArray).size + 1) - 1) ⟨s.toArray⟩ := ⟨_, rfl⟩
  have hd : D.map (·.data.toList) = twoP s := by
    rw [hD, Lib.splitB_data, ← lib_two]
    rfl
  have hl : D.length = (twoP s).length := by rw [← hd, List.length_map]
  have hle : (twoP s).length ≤ min 2 (s.length + 1) := by
    rw [twoP_len]
    split
    · have h2 := cutP_back s
      rename_i h
      rw [if_pos h] at h2
      have := congrArg List.length h2
      rw [List.length_append, List.length_cons] at this
      omega
    · omega
  rw [← hD, hl]
  rw [show (⟨s.toArray⟩ : ByteArray).size = s.length from rfl]
  refine ⟨_, rfl, (Below.refl _ _).alloc (Nat.le_refl _) _, ?_⟩
  have hb : Blk _ (w.alloc (.cells (Lib.cellsOf D (min 2 (s.length + 1))) (Tryd.laysSplitN_ren.t 9))) w.heap.size _ := Blk.newA w (Tryd.laysSplitN_ren.t 9) (Lib.cellsOf D (min 2 (s.length + 1)))
  refine hb.row (twoP s) _ _ (fun _ => rfl) rfl (fun j u hu => ?_) hle (by unfold maxLen; omega)
  unfold Lib.cellsOf
  simp only []
  have hv : D.map Value.string = (twoP s).flatMap fcell := by
    rw [flat_f, ← hd, List.map_map]
    exact List.map_congr_left fun x _ => rfl
  rw [hv, List.getElem?_append_left (List.getElem?_eq_some_iff.1 hu).1]
  exact hu
end Go.Proofs.YtkgfijdodbkkgaaDoor
