/- How the data that come in are read, as plain facts: lemmas of my own with no program in sight. -/
import Derived.Test.YtohenjgegkgncaaLib
import Derived.ProofKit
import Derived.OpenShut
import Derived.ShutString
import Derived.ChangeOld
import Derived.SizedLaws
import Derived.Deep.CondSized
import Derived.Deep.Slices
set_option linter.unusedSimpArgs false
set_option linter.unusedVariables false
namespace Go.Proofs.Ytohenjgegkgncaa
open Go.ChangeShapes Go.WideShapes Go.ChangeAt Go.RowKit
variable {H : Type} {enc : TypeId × Value → H} {P : Program} {W : World}

/-- How long a list is as data. -/
def Sz {H : Type} (d : DataW H) (n : Nat) : Prop := (d = .nil ∧ n = 0) ∨ ∃ es sp, d = .slice es sp ∧ es.length = n
theorem Sz.reach {ts : List TypeId} {ds : List (DataW H)} (h : (DataW.weightsEach P ts ds).all (· ≤ reachBytes) = true) {j : Nat} {t e : TypeId} {d : DataW H} {n : Nat} (hs : Sz d n) (ht : ts[j]? = some t) (hd : ds[j]? = some d) (hu : P.underlying t = some (.slice e)) (b : Nat) (hb : P.bytesOf e = b) : n * b ≤ 140737488351232 := by
  rcases hs with ⟨_, rfl⟩ | ⟨es, sp, rfl, rfl⟩
  · omega
  · have := sized_slice h ht hd hu
    rw [hb] at this
    have h2 : es.length * b ≤ (es.length + sp.length) * b := Nat.mul_le_mul_right _ (by omega)
    have h3 : reachBytes = 140737488351232 := by decide
    omega
theorem wf_u8_lt {n : Int} (h : (Lit.int .u8 n).wf = true) : 0 ≤ n ∧ n ≤ 255 := by
  simpa [Lit.wf, IntKind.min, IntKind.max, IntKind.signed, IntKind.bits] using h
theorem u8v_of (n : Int) (h : 0 ≤ n ∧ n ≤ 255) : Value.int .u8 n = u8v (UInt8.ofNat n.toNat) := by
  unfold u8v
  have : (UInt8.ofNat n.toNat).toNat = n.toNat := by rw [UInt8.toNat_ofNat']; omega
  rw [this, Int.toNat_of_nonneg h.1]
theorem open_bytes {t e : TypeId} (ht : P.underlying t = some (.slice e)) (he : P.underlying e = some (.int .u8)) (hc : P.cellsOf e = 1) {r : Reach} {b0 : Nat} {v : Value} {d : DataW H} {p : List MemPlace}
    (hv : Value.okWide P W r b0 t v) (h : DataW.Trod enc P W 0 (fun _ => true) true t v d p) : ∃ l : List UInt8, Bytes W v l ∧ Sz d l.length := by
  obtain ⟨a, len, cap, rfl⟩ := okWide_slice ht hv
  obtain ⟨fuel, hf⟩ := h
  rcases open_ints ht he hc hf with ⟨hcs, hx⟩ | ⟨x, l, c, zs, hcs, _, hl, hm, hz, hx, hcell, hwz⟩
  · simp [Value.cells] at hcs
    obtain ⟨rfl, rfl, rfl⟩ := hcs
    simp only [Prod.mk.injEq] at hx
    exact ⟨[], RowOf.nil b8 1 W, .inl ⟨hx.1, rfl⟩⟩
  · simp [Value.cells] at hcs
    obtain ⟨rfl, rfl, rfl⟩ := hcs
    simp only [Prod.mk.injEq] at hx
    have hz' : zs.length = cap := by simpa using hz
    have hlen : ((zs.take len).map (fun n => UInt8.ofNat n.toNat)).length = len := by simp; omega
    obtain ⟨b, o, s⟩ := x
    have hspot : s = none ∨ len = 0 := by
      by_cases h0 : len = 0
      · exact .inr h0
      · left
        have := hcell 0 (by omega)
        simp only [Addr.add, if_true] at this
        cases s with
        | none => rfl
        | some q =>
          unfold World.cell? at this
          split at this <;> simp at this
    refine ⟨(zs.take len).map (fun n => UInt8.ofNat n.toNat), ⟨by rw [flat_len (f := b8) (size := 1) (fun _ => rfl)], _, _, by rw [hlen], by rw [hlen]; exact hl, hm, .inr ⟨b, o, s, rfl, by rw [hlen]; exact hspot, fun j u hu => ?_⟩⟩, .inr ⟨_, _, hx.1, by rw [hlen]; simp [lits]; omega⟩⟩
    rw [flat_b8, List.map_map] at hu
    have hj : j < len := by
      have := (List.getElem?_eq_some_iff.1 hu).1
      simp at this; omega
    have hjz : j < zs.length := by omega
    have hb := wf_u8_lt (hwz zs[j] (List.getElem_mem hjz))
    obtain rfl : s = none := hspot.resolve_right (by omega)
    have hc := hcell j hjz
    have hadd : (⟨b, o, none⟩ : Addr).add j = ⟨b, o + j, none⟩ := by unfold Addr.add; split <;> simp_all
    rw [hadd] at hc
    rw [hc]
    simp only [List.getElem?_map, List.getElem?_take, hj, if_true, List.getElem?_eq_getElem hjz, Option.map_some, Option.some.injEq, Function.comp] at hu
    rw [← hu, ← u8v_of _ hb]
    simp [List.getD, List.getElem?_eq_getElem hjz]
/-- A row of cells, segment by segment. -/
theorem segs {α : Type} {f : α → List Value} {good : α → Prop} {sz : Nat} : ∀ (n : Nat) (cs : List Value), cs.length = n * sz → (∀ i, i < n → ∃ x, good x ∧ (cs.drop (i * sz)).take sz = f x) →
    ∃ l : List α, l.length = n ∧ (∀ x ∈ l, good x) ∧ cs = l.flatMap f
  | 0, cs, hl, _ => ⟨[], rfl, by simp, by simpa using hl⟩
  | n + 1, cs, hl, h => by
    obtain ⟨x, hx, hf⟩ := h 0 (by omega)
    rw [Nat.zero_mul, List.drop_zero] at hf
    obtain ⟨l, h1, h2, h3⟩ := segs (f := f) (good := good) (sz := sz) n (cs.drop sz) (by rw [List.length_drop, hl, Nat.add_mul]; omega) (fun i hi => by
      obtain ⟨y, hy, hfy⟩ := h (i + 1) (by omega)
      refine ⟨y, hy, ?_⟩
      rw [List.drop_drop, ← hfy, Nat.add_mul, Nat.one_mul, Nat.add_comm])
    refine ⟨x :: l, by simp [h1], fun y hy => ?_, ?_⟩
    · rcases List.mem_cons.1 hy with rfl | hy
      · exact hx
      · exact h2 y hy
    · rw [List.flatMap_cons, ← hf, ← h3, List.take_append_drop]
/-- the cells of an array of numbers -/
theorem trod_arr {t e : TypeId} {n : Nat} {k : IntKind} (ht : P.underlying t = some (.array n e)) (he : P.underlying e = some (.int k)) (hc : P.cellsOf e = 1) (hct : P.cellsOf t = n) {fuel : Nat} {cs : List Value} {x : DataW H × List MemPlace}
    {base : Nat} {spare : Nat → Bool} {held : Bool} (hf : DataW.trod enc P W base spare held fuel t cs = some x) : ∃ xs : List Int, cs = xs.map (Value.int k) ∧ xs.length = n ∧ ∀ x ∈ xs, (Lit.int k x).wf = true := by
  obtain ⟨ys, m, _, _, hcl, hyl, hel⟩ := DataW.trod_array ht hf
  obtain ⟨l, h1, h2, h3⟩ := segs (α := Int) (f := fun z => [Value.int k z]) (good := fun z => (Lit.int k z).wf = true) (sz := 1) n cs (by rw [hcl, hct]; omega) (fun i hi => by
    have h1 := hel i hi
    rw [hc] at h1
    have hi' : i < ys.length := by omega
    rw [List.getElem?_eq_getElem hi'] at h1
    obtain ⟨z, hz, _, hw⟩ := DataW.trod_int he h1
    exact ⟨z, hw, hz⟩)
  refine ⟨l, ?_, h1, h2⟩
  rw [h3]; clear h1 h2 h3
  induction l <;> simp_all
/-- an array of numbers by value -/
theorem open_arr {t e : TypeId} {n : Nat} {k : IntKind} (ht : P.underlying t = some (.array n e)) (he : P.underlying e = some (.int k)) (hc : P.cellsOf e = 1) (hct : P.cellsOf t = n) {r : Reach} {b0 : Nat} {v : Value} {d : DataW H} {p : List MemPlace}
    (hv : Value.okWide P W r b0 t v) (h : DataW.Trod enc P W 0 (fun _ => true) true t v d p) : ∃ xs : List Int, v = .agg (xs.map (Value.int k)).toArray ∧ xs.length = n ∧ ∀ x ∈ xs, (Lit.int k x).wf = true := by
  obtain ⟨cs, rfl⟩ : ∃ cs, v = .agg cs := by
    simp only [Value.okWide, ht] at hv
    obtain ⟨cs, h1, _⟩ := hv
    exact ⟨cs, h1⟩
  obtain ⟨fuel, hf⟩ := h
  obtain ⟨xs, h1, h2, h3⟩ := trod_arr ht he hc hct hf
  refine ⟨xs, ?_, h2, h3⟩
  rw [← h1]
  simp [Value.cells]
end Go.Proofs.Ytohenjgegkgncaa
