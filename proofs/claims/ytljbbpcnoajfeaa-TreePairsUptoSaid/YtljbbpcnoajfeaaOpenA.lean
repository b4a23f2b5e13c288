/- How the data that come in are read, as plain facts: lemmas of my own with no program in sight. | How slices of anything that come in are read: lemmas of my own with no program in sight. | What the bound of the second form gives: lemmas of my own over the given measure. | What the bound of the second form gives of slices of anything: lemmas of my own over the given measure. -/
import Derived.Test.YtljbbpcnoajfeaaBase
import Derived.ProofKit
import Derived.OpenShut
import Derived.ShutString
import Derived.ChangeOld
import Derived.SizedLaws
import Derived.Deep.CondSized
import Derived.Deep.Slices
import Derived.Test.YtljbbpcnoajfeaaTabs
/- (Open) How the data that come in are read, as plain facts: lemmas of my own with no program in sight. -/
set_option linter.unusedSimpArgs false
set_option linter.unusedVariables false
namespace Go.Proofs.Ytljbbpcnoajfeaa
open Go.ChangeShapes Go.WideShapes Go.ChangeAt Go.RowKit
variable {H : Type} {enc : TypeId × Value → H} {P : Program} {W : World}

/-- How long a list is as data. -/
def Sz {H : Type} (d : DataW H) (n : Nat) : Prop := (d = .nil ∧ n = 0) ∨ ∃ es sp, d = .slice es sp ∧ es.length = n
theorem Sz.reach {ts : List TypeId} {ds : List (DataW H)} (h : (DataW.weightsEach P ts ds).all (· ≤ reachBytes) = true) {j : Nat} {t e : TypeId} {d : DataW H} {n : Nat} (hs : Sz d n) (ht : ts[j]? = some t) (hd : ds[j]? = some d) (hu : P.underlying t = some (.slice e)) (b : Nat) (hb : P.bytesOf e = b) : n * b ≤ 140737488351232 := by
  rcases hs with ⟨_, rfl⟩ | ⟨es, sp, rfl, rfl⟩
  · omega
  · have := sized_slice h ht hd hu
    rw [hb] at this
    have h2 : es.length * b ≤ (es.length + sp.length) * b := Nat.mul_le_mul_right _ (by omega)
    have h3 : reachBytes = 140737488351232 := by decide
    omega
theorem wf_u8_lt {n : Int} (h : (Lit.int .u8 n).wf = true) : 0 ≤ n ∧ n ≤ 255 := by
  simpa [Lit.wf, IntKind.min, IntKind.max, IntKind.signed, IntKind.bits] using h
theorem u8v_of (n : Int) (h : 0 ≤ n ∧ n ≤ 255) : Value.int .u8 n = u8v (UInt8.ofNat n.toNat) := by
  unfold u8v
  have : (UInt8.ofNat n.toNat).toNat = n.toNat := by rw [UInt8.toNat_ofNat']; omega
  rw [this, Int.toNat_of_nonneg h.1]
theorem open_bytes {t e : TypeId} (ht : P.underlying t = some (.slice e)) (he : P.underlying e = some (.int .u8)) (hc : P.cellsOf e = 1) {r : Reach} {b0 : Nat} {v : Value} {d : DataW H} {p : List MemPlace}
    (hv : Value.okWide P W r b0 t v) (h : DataW.Trod enc P W 0 (fun _ => true) true t v d p) : ∃ l : List UInt8, Bytes W v l ∧ Sz d l.length := by
  obtain ⟨a, len, cap, rfl⟩ := okWide_slice ht hv
  obtain ⟨fuel, hf⟩ := h
  rcases open_ints ht he hc hf with ⟨hcs, hx⟩ | ⟨x, l, c, zs, hcs, _, hl, hm, hz, hx, hcell, hwz⟩
  · simp [Value.cells] at hcs
    obtain ⟨rfl, rfl, rfl⟩ := hcs
    simp only [Prod.mk.injEq] at hx
    exact ⟨[], RowOf.nil b8 1 W, .inl ⟨hx.1, rfl⟩⟩
  · simp [Value.cells] at hcs
    obtain ⟨rfl, rfl, rfl⟩ := hcs
    simp only [Prod.mk.injEq] at hx
    have hz' : zs.length = cap := by simpa using hz
    have hlen : ((zs.take len).map (fun n => UInt8.ofNat n.toNat)).length = len := by simp; omega
    obtain ⟨b, o, s⟩ := x
    have hspot : s = none ∨ len = 0 := by
      by_cases h0 : len = 0
      · exact .inr h0
      · left
        have := hcell 0 (by omega)
        simp only [Addr.add, if_true] at this
        cases s with
        | none => rfl
        | some q =>
          unfold World.cell? at this
          split at this <;> simp at this
    refine ⟨(zs.take len).map (fun n => UInt8.ofNat n.toNat), ⟨by rw [flat_len (f := b8) (size := 1) (fun _ => rfl)], _, _, by rw [hlen], by rw [hlen]; exact hl, hm, .inr ⟨b, o, s, rfl, by rw [hlen]; exact hspot, fun j u hu => ?_⟩⟩, .inr ⟨_, _, hx.1, by rw [hlen]; simp [lits]; omega⟩⟩
    rw [flat_b8, List.map_map] at hu
    have hj : j < len := by
      have := (List.getElem?_eq_some_iff.1 hu).1
      simp at this; omega
    have hjz : j < zs.length := by omega
    have hb := wf_u8_lt (hwz zs[j] (List.getElem_mem hjz))
    obtain rfl : s = none := hspot.resolve_right (by omega)
    have hc := hcell j hjz
    have hadd : (⟨b, o, none⟩ : Addr).add j = ⟨b, o + j, none⟩ := by unfold Addr.add; split <;> simp_all
    rw [hadd] at hc
    rw [hc]
    simp only [List.getElem?_map, List.getElem?_take, hj, if_true, List.getElem?_eq_getElem hjz, Option.map_some, Option.some.injEq, Function.comp] at hu
    rw [← hu, ← u8v_of _ hb]
    simp [List.getD, List.getElem?_eq_getElem hjz]
/-- A row of cells, segment by segment. -/
theorem segs {α : Type} {f : α → List Value} {good : α → Prop} {sz : Nat} : ∀ (n : Nat) (cs : List Value), cs.length = n * sz → (∀ i, i < n → ∃ x, good x ∧ (cs.drop (i * sz)).take sz = f x) →
    ∃ l : List α, l.length = n ∧ (∀ x ∈ l, good x) ∧ cs = l.flatMap f
  | 0, cs, hl, _ => ⟨[], rfl, by simp, by simpa using hl⟩
  | n + 1, cs, hl, h => by
    obtain ⟨x, hx, hf⟩ := h 0 (by omega)
    rw [Nat.zero_mul, List.drop_zero] at hf
    obtain ⟨l, h1, h2, h3⟩ := segs (f := f) (good := good) (sz := sz) n (cs.drop sz) (by rw [List.length_drop, hl, Nat.add_mul]; omega) (fun i hi => by
      obtain ⟨y, hy, hfy⟩ := h (i + 1) (by omega)
      refine ⟨y, hy, ?_⟩
      rw [List.drop_drop, ← hfy, Nat.add_mul, Nat.one_mul, Nat.add_comm])
    refine ⟨x :: l, by simp [h1], fun y hy => ?_, ?_⟩
    · rcases List.mem_cons.1 hy with rfl | hy
      · exact hx
      · exact h2 y hy
    · rw [List.flatMap_cons, ← hf, ← h3, List.take_append_drop]
/-- the cells of an array of numbers -/
theorem trod_arr {t e : TypeId} {n : Nat} {k : IntKind} (ht : P.underlying t = some (.array n e)) (he : P.underlying e = some (.int k)) (hc : P.cellsOf e = 1) (hct : P.cellsOf t = n) {fuel : Nat} {cs : List Value} {x : DataW H × List MemPlace}
    {base : Nat} {spare : Nat → Bool} {held : Bool} (hf : DataW.trod enc P W base spare held fuel t cs = some x) : ∃ xs : List Int, cs = xs.map (Value.int k) ∧ xs.length = n ∧ ∀ x ∈ xs, (Lit.int k x).wf = true := by
  obtain ⟨ys, m, _, _, hcl, hyl, hel⟩ := DataW.trod_array ht hf
  obtain ⟨l, h1, h2, h3⟩ := segs (α := Int) (f := fun z => [Value.int k z]) (good := fun z => (Lit.int k z).wf = true) (sz := 1) n cs (by rw [hcl, hct]; omega) (fun i hi => by
    have h1 := hel i hi
    rw [hc] at h1
    have hi' : i < ys.length := by omega
    rw [List.getElem?_eq_getElem hi'] at h1
    obtain ⟨z, hz, _, hw⟩ := DataW.trod_int he h1
    exact ⟨z, hw, hz⟩)
  refine ⟨l, ?_, h1, h2⟩
  rw [h3]; clear h1 h2 h3
  induction l <;> simp_all
/-- an array of numbers by value -/
theorem open_arr {t e : TypeId} {n : Nat} {k : IntKind} (ht : P.underlying t = some (.array n e)) (he : P.underlying e = some (.int k)) (hc : P.cellsOf e = 1) (hct : P.cellsOf t = n) {r : Reach} {b0 : Nat} {v : Value} {d : DataW H} {p : List MemPlace}
    (hv : Value.okWide P W r b0 t v) (h : DataW.Trod enc P W 0 (fun _ => true) true t v d p) : ∃ xs : List Int, v = .agg (xs.map (Value.int k)).toArray ∧ xs.length = n ∧ ∀ x ∈ xs, (Lit.int k x).wf = true := by
  obtain ⟨cs, rfl⟩ : ∃ cs, v = .agg cs := by
    simp only [Value.okWide, ht] at hv
    obtain ⟨cs, h1, _⟩ := hv
    exact ⟨cs, h1⟩
  obtain ⟨fuel, hf⟩ := h
  obtain ⟨xs, h1, h2, h3⟩ := trod_arr ht he hc hct hf
  refine ⟨xs, ?_, h2, h3⟩
  rw [← h1]
  simp [Value.cells]
end Go.Proofs.Ytljbbpcnoajfeaa
/- (Open2) How slices of anything that come in are read: lemmas of my own with no program in sight. -/
namespace Go.Proofs.Ytljbbpcnoajfeaa
open Go.ChangeShapes Go.WideShapes Go.ChangeAt Go.RowKit
variable {H : Type} {enc : TypeId × Value → H} {P : Program} {W : World}

/-- The data of a list, element by element. -/
def SzL {H α : Type} (sz : DataW H → α → Prop) (d : DataW H) (l : List α) : Prop :=
  (d = .nil ∧ l = []) ∨ ∃ (es sp : List (DataW H)), d = .slice es sp ∧ es.length = l.length ∧ ∀ (i : Nat) (e : DataW H) (y : α), es[i]? = some e → l[i]? = some y → sz e y
theorem SzL.sz {H α : Type} {sz : DataW H → α → Prop} {d : DataW H} {l : List α} (h : SzL sz d l) : Sz d l.length := by
  rcases h with ⟨h1, rfl⟩ | ⟨es, sp, h1, h2, _⟩
  · exact .inl ⟨h1, rfl⟩
  · exact .inr ⟨es, sp, h1, h2⟩
theorem choose_list {α : Type} {p : Nat → α → Prop} : ∀ (n : Nat), (∀ i, i < n → ∃ y, p i y) → ∃ l : List α, l.length = n ∧ ∀ i y, l[i]? = some y → p i y
  | 0, _ => ⟨[], rfl, by simp⟩
  | n + 1, h => by
    obtain ⟨l, h1, h2⟩ := choose_list n (fun i hi => h i (by omega))
    obtain ⟨y, hy⟩ := h n (by omega)
    refine ⟨l ++ [y], by simp [h1], fun i z hz => ?_⟩
    by_cases hi : i < n
    · rw [List.getElem?_append_left (by omega)] at hz
      exact h2 i z hz
    · rw [List.getElem?_append_right (by omega)] at hz
      have hi0 : i - l.length = 0 := by
        have := (List.getElem?_eq_some_iff.1 hz).1
        simp at this; omega
      rw [hi0] at hz
      simp only [List.getElem?_cons_zero, Option.some.injEq] at hz
      obtain rfl : i = n := by omega
      rw [← hz]; exact hy
theorem addr_none {b off : Nat} (k : Nat) : (⟨b, off, none⟩ : Addr).add k = ⟨b, off + k, none⟩ := by unfold Addr.add; split <;> simp_all
theorem open_rows {α : Type} {f : α → List Value} {good : α → Prop} {sz : DataW H → α → Prop} {size : Nat} {t e : TypeId} (ht : P.underlying t = some (.slice e)) (hc : P.cellsOf e = size) (hs : 0 < size)
    (hf : ∀ x, (f x).length = size) {fuel : Nat} {cs : List Value} {x : DataW H × List MemPlace}
    (h : DataW.trod enc P W 0 (fun _ => true) true fuel t cs = some x)
    (hel : ∀ n, n + 1 = fuel → ∀ cs' x', DataW.trod enc P W 0 (fun _ => true) true n e cs' = some x' → ∃ y, cs' = f y ∧ good y ∧ sz x'.1 y) :
    ∃ v l, cs = [v] ∧ RowOf f size W v l ∧ (∀ y ∈ l, good y) ∧ SzL sz x.1 l := by
  rcases DataW.trod_slice ht h with ⟨rfl, rfl⟩ | ⟨a, len, cap, elems, rest, n, hfu, rfl, rfl, hb, hl, hm, hlen, hcell, _, _⟩
  · exact ⟨_, [], rfl, RowOf.nil f size W, by simp, Or.inl ⟨rfl, rfl⟩⟩
  rw [hc] at hcell
  obtain ⟨l, h1, h2⟩ := choose_list (p := fun i y => ∃ cs' x', W.cells? 0 (a.add (i * size)) size = some cs' ∧ elems[i]? = some x' ∧ cs' = f y ∧ good y ∧ sz x'.1 y) len (fun i hi => by
    have h1 := hcell i hi
    rw [List.getElem?_eq_getElem (by omega)] at h1
    obtain ⟨cs', h3, h4⟩ := Option.bind_eq_some_iff.1 h1
    obtain ⟨y, h5, h6, h7⟩ := hel n hfu.symm cs' _ h4
    exact ⟨y, cs', _, h3, List.getElem?_eq_getElem (by omega), h5, h6, h7⟩)
  obtain ⟨b, off, s⟩ := a
  have hsn : s = none ∨ len = 0 := by
    by_cases h0 : len = 0
    · exact .inr h0
    · left
      obtain ⟨cs', _, h3, _⟩ := h2 0 _ (List.getElem?_eq_getElem (by omega))
      obtain ⟨_, h5, h6⟩ := World.cells?_some h3
      have h7 := h6 0 (by omega)
      rw [List.getElem?_eq_getElem (by omega)] at h7
      rw [Nat.zero_mul] at h7
      simp only [Addr.add, if_true] at h7
      cases s with
      | none => rfl
      | some q =>
        unfold World.cell? at h7
        split at h7 <;> simp at h7
  refine ⟨_, l, rfl, ⟨flat_len hf l, _, _, by rw [h1], by omega, hm, Or.inr ⟨b, off, s, rfl, by rw [h1]; exact hsn, fun j u hu => ?_⟩⟩, fun y hy => ?_, Or.inr ⟨_, _, rfl, by simp [hlen, h1], fun i e' y he hy => ?_⟩⟩
  · have hj := (List.getElem?_eq_some_iff.1 hu).1
    rw [flat_len hf, h1] at hj
    have hi : j / size < len := (Nat.div_lt_iff_lt_mul hs).2 hj
    have hr : j % size < size := Nat.mod_lt _ hs
    have hjj : j = j / size * size + j % size := by rw [Nat.mul_comm]; exact (Nat.div_add_mod j size).symm
    rw [hjj, flat_get hf l (j / size) (by omega) _ hr] at hu
    obtain ⟨cs', _, h3, _, h5, _⟩ := h2 (j / size) _ (List.getElem?_eq_getElem (by omega))
    obtain ⟨_, _, h6⟩ := World.cells?_some h3
    obtain rfl : s = none := hsn.resolve_right (fun h0 => by rw [h0] at hi; exact Nat.not_lt_zero _ hi)
    have h7 := h6 (j % size) hr
    rw [addr_none, addr_none, h5, hu, Nat.add_assoc, ← hjj] at h7
    exact h7
  · obtain ⟨i, hi⟩ := List.getElem?_of_mem hy
    obtain ⟨_, _, _, _, _, h6, _⟩ := h2 i y hi
    exact h6
  · obtain ⟨_, x', _, h4, _, _, h7⟩ := h2 i y hy
    rw [List.getElem?_map, h4] at he
    simp only [Option.map_some, Option.some.injEq] at he
    rw [← he]; exact h7
theorem open_bytes_at {t e : TypeId} (ht : P.underlying t = some (.slice e)) (he : P.underlying e = some (.int .u8)) (hc : P.cellsOf e = 1) {fuel : Nat} {cs : List Value} {x : DataW H × List MemPlace}
    (h : DataW.trod enc P W 0 (fun _ => true) true fuel t cs = some x) : ∃ v, ∃ l : List UInt8, cs = [v] ∧ Bytes W v l ∧ Sz x.1 l.length := by
  obtain ⟨v, l, h1, h2, _, h3⟩ := open_rows (f := b8) (good := fun _ => True) (sz := fun _ _ => True) ht hc (by omega) (fun _ => rfl) h (fun n _ cs' x' hx => by
    obtain ⟨z, hz, _, hw⟩ := DataW.trod_int he hx
    have hb := wf_u8_lt hw
    exact ⟨UInt8.ofNat z.toNat, by rw [hz]; unfold b8; rw [u8v_of _ hb], trivial, trivial⟩)
  exact ⟨v, l, h1, h2, h3.sz⟩
/-- A slice of texts: the elements' values, each with what it reads as. -/
def tcell (p : Value × List UInt8) : List Value := [p.1]
def Texts (w : World) (v : Value) (ps : List (Value × List UInt8)) : Prop := RowOf tcell 1 w v ps ∧ ∀ p ∈ ps, Bytes w p.1 p.2
theorem Texts.below {w w' : World} {v : Value} {ps : List (Value × List UInt8)} (h : Texts w v ps) (hb : Below w.heap.size w w') : Texts w' v ps := ⟨h.1.below hb, fun p hp => (h.2 p hp).below hb⟩
theorem Texts.at {w : World} {a : Option Addr} {n c : Nat} {ps : List (Value × List UInt8)} (h : Texts w (.slice a n c) ps) (k : Nat) (hk : k < ps.length) :
    ∃ b off p, a = some ⟨b, off, none⟩ ∧ ps[k]? = some p ∧ w.cell? ⟨b, off + k, none⟩ = some p.1 ∧ Bytes w p.1 p.2 := by
  obtain ⟨b, off, ha, hc⟩ := RowOf.cells (f := tcell) (size := 1) (fun _ => rfl) h.1 k hk
  exact ⟨b, off, ps[k], ha, List.getElem?_eq_getElem hk, by simpa using hc 0 _ rfl, h.2 _ (List.getElem_mem hk)⟩
def SzT {H : Type} (d : DataW H) (ps : List (Value × List UInt8)) : Prop := SzL (fun d p => Sz d p.2.length) d ps
theorem open_texts_at {t e u : TypeId} (ht : P.underlying t = some (.slice e)) (he : P.underlying e = some (.slice u)) (hu : P.underlying u = some (.int .u8)) (hc : P.cellsOf e = 1) (hcu : P.cellsOf u = 1) {fuel : Nat} {cs : List Value} {x : DataW H × List MemPlace}
    (h : DataW.trod enc P W 0 (fun _ => true) true fuel t cs = some x) : ∃ v, ∃ ps, cs = [v] ∧ Texts W v ps ∧ SzT x.1 ps := by
  obtain ⟨v, ps, h1, h2, h3, h4⟩ := open_rows (f := tcell) (good := fun p => Bytes W p.1 p.2) (sz := fun d p => Sz d p.2.length) ht hc (by omega) (fun _ => rfl) h (fun n _ cs' x' hx => by
    obtain ⟨v, l, h1, h2, h3⟩ := open_bytes_at he hu hcu hx
    exact ⟨(v, l), h1, h2, h3⟩)
  exact ⟨v, ps, h1, ⟨h2, h3⟩, h4⟩
theorem one_val {v u : Value} (h : v.cells.toList = [u]) (hv : ∃ a n c, v = .slice a n c) : v = u := by
  obtain ⟨a, n, c, rfl⟩ := hv
  simpa [Value.cells] using h
theorem open_texts {t e u : TypeId} (ht : P.underlying t = some (.slice e)) (he : P.underlying e = some (.slice u)) (hu : P.underlying u = some (.int .u8)) (hc : P.cellsOf e = 1) (hcu : P.cellsOf u = 1) {r : Reach} {b0 : Nat} {v : Value} {d : DataW H} {p : List MemPlace}
    (hv : Value.okWide P W r b0 t v) (h : DataW.Trod enc P W 0 (fun _ => true) true t v d p) : ∃ ps, Texts W v ps ∧ SzT d ps := by
  obtain ⟨fuel, hf⟩ := h
  obtain ⟨v', ps, h1, h2, h3⟩ := open_texts_at ht he hu hc hcu hf
  obtain rfl : v = v' := one_val h1 (by obtain ⟨a, len, cap, hh⟩ := okWide_slice ht hv; exact ⟨a, len, cap, hh⟩)
  exact ⟨ps, h2, h3⟩
theorem weights_all {H : Type} {P : Program} {e : TypeId} : ∀ {ds : List (DataW H)} {d : DataW H}, d ∈ ds → ∀ n ∈ d.weights P e, n ∈ DataW.weightsAll P e ds
  | d0 :: ds, d, hd, n, hn => by
    simp only [DataW.weightsAll, List.mem_append]
    rcases List.mem_cons.1 hd with rfl | hd
    · exact .inl hn
    · exact .inr (weights_all hd n hn)
/-- Each text of a list is of the reach. -/
theorem SzT.reach {H : Type} {P : Program} {ts : List TypeId} {ds : List (DataW H)} (h : (DataW.weightsEach P ts ds).all (· ≤ reachBytes) = true) {j : Nat} {t e u : TypeId} {d : DataW H} {ps : List (Value × List UInt8)} (hs : SzT d ps) (ht : ts[j]? = some t) (hd : ds[j]? = some d)
    (hu : P.underlying t = some (.slice e)) (he : P.underlying e = some (.slice u)) (hb : P.bytesOf u = 1) : ∀ p ∈ ps, p.2.length ≤ 140737488351232 := by
  intro p hp
  obtain ⟨i, hi⟩ := List.getElem?_of_mem hp
  rcases hs with ⟨_, rfl⟩ | ⟨es, sp, rfl, hl, hz⟩
  · simp at hp
  · have hil := (List.getElem?_eq_some_iff.1 hi).1
    have hei : es[i]? = some (es[i]'(by omega)) := List.getElem?_eq_getElem (by omega)
    rcases hz i _ p hei hi with ⟨_, h0⟩ | ⟨es', sp', h1, h2⟩
    · omega
    · have hm : (es'.length + sp'.length) * P.bytesOf u ∈ (es[i]'(by omega)).weights P e := by
        rw [h1]; simp [DataW.weights, he]
      have hm2 : (es'.length + sp'.length) * P.bytesOf u ∈ (DataW.slice es sp).weights P t := by
        simp only [DataW.weights, hu, List.mem_cons, List.mem_append]
        exact .inr (.inl (weights_all (List.mem_of_getElem? hei) _ hm))
      have := List.all_eq_true.1 h _ (DataW.weights_mem_each ht hd _ hm2)
      rw [hb] at this
      simp only [decide_eq_true_eq] at this
      have h3 : reachBytes = 140737488351232 := by decide
      omega
end Go.Proofs.Ytljbbpcnoajfeaa
/- (Upto) What the bound of the second form gives: lemmas of my own over the given measure. -/
namespace Go.Proofs.Ytljbbpcnoajfeaa
variable {H : Type}
theorem upto_mem : ∀ {l : List (DataW H)} {d : DataW H}, d ∈ l → Rows.uptoBulk d ≤ Rows.uptoBulkAll l
  | x :: l, d, h => by
    unfold Rows.uptoBulkAll
    rcases List.mem_cons.1 h with rfl | h
    · omega
    · have := upto_mem h; omega
theorem upto_one (d : DataW H) : 1 ≤ Rows.uptoBulk d := by
  cases d with
  | lit l => cases l <;> simp [Rows.uptoBulk]
  | nil => simp [Rows.uptoBulk]
  | ptr d => simp [Rows.uptoBulk]
  | slice a b => simp [Rows.uptoBulk]
  | agg p => simp [Rows.uptoBulk]
  | iface n d => simp [Rows.uptoBulk]
  | map e => simp [Rows.uptoBulk]
  | held x => simp [Rows.uptoBulk]
theorem upto_len : ∀ (l : List (DataW H)), l.length ≤ Rows.uptoBulkAll l
  | [] => by simp
  | d :: l => by
    unfold Rows.uptoBulkAll
    have h1 := upto_one d
    have h2 := upto_len l
    simp only [List.length_cons]; omega
theorem upto_part {ds : List (DataW H)} (hk : Rows.uptoSmall H ds = true) {j : Nat} {d : DataW H} (hd : ds[j]? = some d) : Rows.uptoBulk d ≤ 1048576 := by
  have h := of_decide_eq_true hk
  exact Nat.le_trans (upto_mem (List.mem_of_getElem? hd)) h
theorem upto_sz {d : DataW H} {n : Nat} (h : Sz d n) : n ≤ Rows.uptoBulk d := by
  rcases h with ⟨rfl, rfl⟩ | ⟨es, sp, rfl, rfl⟩
  · omega
  · have := upto_len es
    unfold Rows.uptoBulk; omega
theorem upto_str {bs : List UInt8} {N : Nat} (h : Rows.uptoBulk (DataW.lit (H := H) (.string bs)) ≤ N) : bs.length ≤ N := by
  unfold Rows.uptoBulk at h; omega
end Go.Proofs.Ytljbbpcnoajfeaa
/- (Upto2) What the bound of the second form gives of slices of anything: lemmas of my own over the given measure. -/
namespace Go.Proofs.Ytljbbpcnoajfeaa
variable {H : Type}
theorem upto_list {α : Type} {m : α → Nat} {sz : DataW H → α → Prop} (hm : ∀ d x, sz d x → m x ≤ Rows.uptoBulk d) : ∀ (es : List (DataW H)) (l : List α), es.length = l.length → (∀ (i : Nat) (e : DataW H) (y : α), es[i]? = some e → l[i]? = some y → sz e y) → (l.map m).sum ≤ Rows.uptoBulkAll es
  | [], [], _, _ => by simp
  | e :: es, y :: l, hl, h => by
    have h1 := hm e y (h 0 e y rfl rfl)
    have h2 := upto_list hm es l (by simpa using hl) (fun i e' y' he hy => h (i + 1) e' y' (by simpa using he) (by simpa using hy))
    unfold Rows.uptoBulkAll
    simp only [List.map_cons, List.sum_cons]
    omega
  | [], _ :: _, hl, _ => by simp at hl
  | _ :: _, [], hl, _ => by simp at hl
theorem upto_rows {α : Type} {m : α → Nat} {sz : DataW H → α → Prop} (hm : ∀ d x, sz d x → m x ≤ Rows.uptoBulk d) {d : DataW H} {l : List α} (h : SzL sz d l) : (l.map m).sum ≤ Rows.uptoBulk d := by
  rcases h with ⟨_, rfl⟩ | ⟨es, sp, rfl, hl, h⟩
  · simp
  · have := upto_list hm es l hl h
    unfold Rows.uptoBulk; omega
theorem upto_texts {d : DataW H} {ps : List (Value × List UInt8)} (h : SzT d ps) : ps.length ≤ Rows.uptoBulk d ∧ (ps.flatMap (·.2)).length ≤ Rows.uptoBulk d := by
  refine ⟨upto_sz h.sz, ?_⟩
  have := upto_rows (m := fun p : Value × List UInt8 => p.2.length) (fun d x hx => upto_sz hx) h
  rw [List.length_flatMap]
  exact this
end Go.Proofs.Ytljbbpcnoajfeaa
