/- The library's calls that the reference's MOp makes. -/
import Derived.Test.YtikndlkfmjhgdaaDoorPriceO2
import Derived.Test.YtikndlkfmjhgdaaDoorCname4
import Derived.Shelf.Strings.Prefix
import Derived.Shelf.Strings.SplitShaped
import Derived.Shelf.Strings.Shaped
namespace Go.Proofs
open Go.Shelf
shelf_lay Lays.n99 Nm 99 at Tryd as Tryd.laysHasPrefix
shelf_lay LaysM.n145 Nm 145 at Tryd as Tryd.laysCut
shelf_lay LaysM.n146 Nm 146 at Tryd as Tryd.laysSplit
end Go.Proofs
set_option linter.unusedSimpArgs false
set_option linter.unusedVariables false
namespace Go.Proofs.YtikndlkfmjhgdaaDoor
open Go.RowKit Go.Shelf
theorem prefix_any (s p : List UInt8) (w : World) : Calls Tryd.prog 16 #[.string ⟨s.toArray⟩, .string ⟨p.toArray⟩] w fun e w' => e = .returned (.bool (p.isPrefixOf s)) ∧ w' = w :=
  Any.strings_HasPrefix Tryd.laysHasPrefix ⟨s.toArray⟩ ⟨p.toArray⟩ w
/-- internal/bytealg.MaxLen holds some number -/
def MaxHas (w : World) : Prop := ∃ m, w.cell? ⟨2, 0, none⟩ = some (.int .i64 m)
theorem MaxHas.below {w w' : World} (h : MaxHas w) (hb : Below w.heap.size w w') : MaxHas w' := ⟨h.choose, (hb.cell (World.block_lt_of_cell? w _ h.choose_spec)).trans h.choose_spec⟩
theorem MaxHas.shaped {w : World} (h : w.ShapedOpen Tryd.prog) : MaxHas w := Tryd.laysCut.s1_3 w h
theorem cut_any (s p : List UInt8) (hs : s.length < 4294967281) (w : World) (hm : MaxHas w) : Calls Tryd.prog 17 #[.string ⟨s.toArray⟩, .string ⟨p.toArray⟩] w fun e w' => e = .returned (.tuple #[.string ⟨(Lib.cut s p).1.toArray⟩, .string ⟨(Lib.cut s p).2.1.toArray⟩, .bool (Lib.cut s p).2.2]) ∧ ∃ n, w' = w.drewN n :=
  Any.strings_Cut { Tryd.laysCut with } ⟨s.toArray⟩ ⟨p.toArray⟩ hm.choose w (by rw [str_size]; exact hs) hm.choose_spec
theorem split_any2 (s p : List UInt8) (hs : s.length < 4294967281) (h1 : 1 ≤ p.length) (w : World) (hm : MaxHas w) (L : List (List UInt8)) (hL : Lib.split s p = L) (hl : Lib.count s p + 1 = L.length) (hmx : L.length ≤ maxLen) : Calls Tryd.prog 18 #[.string ⟨s.toArray⟩, .string ⟨p.toArray⟩] w fun e w' =>
    e = .returned (.slice (some ⟨w.heap.size, 0, none⟩) L.length L.length) ∧ Below w.heap.size w w' ∧ RowOf fcell 1 w' (.slice (some ⟨w.heap.size, 0, none⟩) L.length L.length) L := by
  refine (Any.strings_Split { Tryd.laysSplit with } Tryd.laysSplit.i9 ⟨s.toArray⟩ ⟨p.toArray⟩ hm.choose w (by rw [str_size]; exact hs) hm.choose_spec (by rw [str_size]; exact h1)).mono ?_
  rintro e w' ⟨rfl, rfl⟩
  have hc : Lib.countB ⟨s.toArray⟩ ⟨p.toArray⟩ = Lib.count s p := rfl
  rw [hc, hl]
  refine ⟨rfl, (Below.refl _ _).alloc (Nat.le_refl _) _, ?_⟩
  have hd := Lib.splitB_data ⟨p.toArray⟩ 0 (Lib.count s p) ⟨s.toArray⟩
  have hd2 : (Lib.splitB ⟨p.toArray⟩ 0 (Lib.count s p) ⟨s.toArray⟩).map (·.data.toList) = L := hd.trans hL
  have hv : (Lib.splitB ⟨p.toArray⟩ 0 (Lib.count s p) ⟨s.toArray⟩).map Value.string = L.flatMap fcell := by
    rw [flat_f, ← hd2, List.map_map]
    exact List.map_congr_left fun x _ => rfl
  rw [hv]
  have := Row.built (f := fcell) (size := 1) (fun _ => rfl) w (Tryd.laysSplit_ren.t 9) L L.length rfl hmx
  exact this
theorem fields_any2 (s : List UInt8) (L : List (List UInt8)) (hs : s.length < 4294967281) (ha : s.all (fun b => decide (b.toNat < 128)) = true) (hL : Lib.fields s = L) (hmx : L.length ≤ maxLen) (w : World) (ht : Lib.TabIs Tryd.prog w "strings.asciiSpace" .u8 Lib.asciiSpaceTab) :
    Calls Tryd.prog 13 #[.string ⟨s.toArray⟩] w fun e w' => e = .returned (.slice (some ⟨w.heap.size, 0, none⟩) L.length L.length) ∧ Below w.heap.size w w' ∧ RowOf fcell 1 w' (.slice (some ⟨w.heap.size, 0, none⟩) L.length L.length) L := by
  refine (Any.strings_Fields Tryd.laysFields Tryd.hi157 Tryd.hg157 ⟨s.toArray⟩ w (by rw [str_size]; exact hs) (fun j b hb => of_decide_eq_true (List.all_eq_true.1 ha b (List.mem_of_getElem? hb))) ht).mono ?_
  rintro e w' ⟨rfl, rfl⟩
  have hL' : Lib.fields (⟨s.toArray⟩ : ByteArray).data.toList = L := hL
  rw [hL']
  refine ⟨rfl, (Below.refl _ _).alloc (Nat.le_refl _) _, ?_⟩
  have := Row.built (f := fcell) (size := 1) (fun _ => rfl) w (Tryd.laysFields_ren.t 9) L L.length rfl hmx
  rw [flat_f] at this
  exact this
theorem ptab_below {w w' : World} {zs : List Int} (h : Lib.TabIs Tryd.prog w "strings.asciiSpace" .u8 zs) (hb : Below w.heap.size w w') : Lib.TabIs Tryd.prog w' "strings.asciiSpace" .u8 zs := by
  have hgn : Tryd.prog.globalNamed "strings.asciiSpace" = some 0 := by kernel_rfl
  unfold Lib.TabIs World.var? at h ⊢
  rw [hgn] at h ⊢
  simp only [Option.bind_some] at h ⊢
  have hlt : 0 < w.heap.size := by
    rcases Nat.lt_or_ge 0 w.heap.size with h' | h'
    · exact h'
    · rw [Array.getElem?_eq_none h'] at h; cases h
  rw [hb.block 0 hlt]
  exact h
/-- the table of prices -/
theorem prices_fields : Lib.fields pricesL = pfs := by kernel_rfl
theorem prices_ascii : pricesL.all (fun b => decide (b.toNat < 128)) = true := by kernel_rfl
def jnd (f : List UInt8) : List UInt8 := (Lib.cut f [58]).2.1
theorem pk_len : pks.length = 15 := rfl
theorem pf_len : pfs.length = 15 := rfl
def pkOk (f : List UInt8) (g : List UInt8 × List (List UInt8)) : Bool :=
  Nat.blt f.length 4294967281 && (Lib.cut f [58]).1 == g.1 && (Lib.cut f [58]).2.2 && Lib.split (jnd f) [44] == g.2 && Nat.beq (Lib.count (jnd f) [44] + 1) g.2.length && Nat.ble g.2.length 100 && Nat.blt (jnd f).length 4294967281
    && g.2.all (fun m => !m.isEmpty && Nat.blt m.length 100) && g.1.all (fun d => Nat.ble 48 d.toNat && Nat.ble d.toNat 57) && Nat.ble g.1.length 3 && (List.range (g.1.length + 1)).all (fun i => Nat.ble (costN (g.1.take i)) 500)
theorem pk_all : (List.range 15).all (fun j => pkOk (pfs[j]?.getD []) (pks[j]?.getD ([], []))) = true := by kernel_rfl
theorem pk_ok (j : Nat) (hj : j < 15) : pkOk (pfs[j]'(by rw [pf_len]; exact hj)) (pks[j]'(by rw [pk_len]; exact hj)) = true := by
  have := List.all_eq_true.1 pk_all j (List.mem_range.2 hj)
  rw [List.getElem?_eq_getElem (by rw [pf_len]; exact hj), List.getElem?_eq_getElem (by rw [pk_len]; exact hj)] at this
  exact this
structure PkOk (f : List UInt8) (g : List UInt8 × List (List UInt8)) : Prop where
  short : f.length < 4294967281
  cost : (Lib.cut f [58]).1 = g.1
  found : (Lib.cut f [58]).2.2 = true
  names : Lib.split (jnd f) [44] = g.2
  many : Lib.count (jnd f) [44] + 1 = g.2.length
  few : g.2.length ≤ 100
  short2 : (jnd f).length < 4294967281
  some : ∀ m ∈ g.2, m ≠ []
  digits : ∀ d ∈ g.1, 48 ≤ d.toNat ∧ d.toNat ≤ 57
  three : g.1.length ≤ 3
  cheap : ∀ i, i ≤ g.1.length → costN (g.1.take i) ≤ 500
theorem pk_parts (j : Nat) (hj : j < 15) : PkOk (pfs[j]'(by rw [pf_len]; exact hj)) (pks[j]'(by rw [pk_len]; exact hj)) := by
  have := pk_ok j hj
  unfold pkOk at this
  simp only [Bool.and_eq_true, beq_iff_eq, List.all_eq_true, Nat.ble_eq, Nat.blt_eq, Nat.beq_eq_true_eq, Bool.not_eq_true', List.isEmpty_eq_false_iff, List.mem_range] at this
  obtain ⟨⟨⟨⟨⟨⟨⟨⟨⟨⟨h1, h2⟩, h3⟩, h4⟩, h5⟩, h6⟩, h7⟩, h8⟩, h9⟩, h10⟩, h11⟩ := this
  exact ⟨h1, h2, h3, h4, Nat.eq_of_beq_eq_true h5, h6, h7, fun m hm => (h8 m hm).1, h9, h10, fun i hi => h11 i (by omega)⟩
theorem cost_next (l : List UInt8) (i : Nat) (hi : i < l.length) : costN (l.take (i + 1)) = costN (l.take i) * 10 + (l[i].toNat - 48) := by
  unfold costN
  rw [List.take_succ_eq_append_getElem hi, List.foldl_append]
  rfl
end Go.Proofs.YtikndlkfmjhgdaaDoor
