/- How an account and a slice of holders that come in are read. -/
import Derived.Test.YtakhaanenlblmaaWsF
import Derived.Test.YtakhaanenlblmaaOpenM
set_option linter.unusedSimpArgs false
set_option linter.unusedVariables false
namespace Go.Proofs.Ytakhaanenlblmaa
open Go.ChangeShapes Go.WideShapes Go.ChangeAt Go.RowKit
section
variable {H : Type} {enc : TypeId × Value → H} {W : World}
theorem open_addr_at {fuel : Nat} {cs : List Value} {x : DataW H × List MemPlace} (h : DataW.trod enc Try.prog W 0 (fun _ => true) true fuel 46 cs = some x) : ∃ A : List UInt8, A.length = 8 ∧ cs = by8 A := by
  obtain ⟨xs, e1, e2, e3⟩ := trod_arr Try.underlying46 Try.underlying5 (by kernel_rfl) (by kernel_rfl) h
  refine ⟨xs.map fun z => UInt8.ofNat z.toNat, by rw [List.length_map, e2], ?_⟩
  rw [e1]
  unfold by8
  rw [List.map_map]
  exact List.map_congr_left (fun z hz => by show _ = u8v (UInt8.ofNat z.toNat); rw [u8v_of _ (wf_u8_lt (e3 z hz))])
theorem open_slot_at {fuel : Nat} {cs : List Value} {x : DataW H × List MemPlace} (h : DataW.trod enc Try.prog W 0 (fun _ => true) true fuel 137 cs = some x) : ∃ p : Nat × Nat, cs = spc p ∧ (p.1 < W256 ∧ p.2 < W256) := by
  obtain ⟨xs, n, hn, hx, hcl, hlen, hf⟩ := DataW.trod_struct Try.underlying137 h
  have c8 : Try.prog.cellsOf 137 = 8 := by kernel_rfl
  have c4 : Try.prog.cellsOf 40 = 4 := by kernel_rfl
  have hl : xs.length = 2 := hlen
  rw [c8] at hcl
  match xs, hl with
  | [y0, y1], _ =>
    have h0 := hf 0 _ rfl
    have h1 := hf 1 _ rfl
    change DataW.trod enc Try.prog W 0 (fun _ => true) true n 40 ((cs.drop 0).take (Try.prog.cellsOf 40)) = some y0 at h0
    change DataW.trod enc Try.prog W 0 (fun _ => true) true n 40 ((cs.drop 4).take (Try.prog.cellsOf 40)) = some y1 at h1
    obtain ⟨A, hA, e0⟩ := open_word_m h0
    obtain ⟨B, hB, e1⟩ := open_word_m h1
    rw [c4] at e0 e1
    refine ⟨(A, B), ?_, hA, hB⟩
    have q0 : cs.drop 0 = cs := rfl
    have q8 : cs.drop 8 = [] := List.drop_eq_nil_of_le (by omega)
    rw [← q0, piece cs 0 4, e0, piece cs (0 + 4) 4, e1, q8]
    simp [spc]
def SzA (d : DataW H) (a : Acc) : Prop := ∃ y0 y1 y2 y3, d = .agg [y0, y1, y2, y3] ∧ Sz y2 a.c.length ∧ Sz y3 a.s.length
set_option maxRecDepth 100000 in
theorem open_acc_at {fuel : Nat} {cs : List Value} {x : DataW H × List MemPlace} (h : DataW.trod enc Try.prog W 0 (fun _ => true) true fuel 49 cs = some x) : ∃ a : Acc, cs = accs a ∧ a.Ok ∧ a.In W ∧ SzA x.1 a := by
  obtain ⟨xs, n, hn, hx, hcl, hlen, hf⟩ := DataW.trod_struct Try.underlying49 h
  have c7 : Try.prog.cellsOf 49 = 7 := by kernel_rfl
  have c4 : Try.prog.cellsOf 40 = 4 := by kernel_rfl
  have c1 : Try.prog.cellsOf 36 = 1 := by kernel_rfl
  have c2 : Try.prog.cellsOf 22 = 1 := by kernel_rfl
  have c3 : Try.prog.cellsOf 47 = 1 := by kernel_rfl
  have hl : xs.length = 4 := hlen
  rw [c7] at hcl
  match xs, hl with
  | [y0, y1, y2, y3], _ =>
    have h0 := hf 0 _ rfl
    have h1 := hf 1 _ rfl
    have h2 := hf 2 _ rfl
    have h3 := hf 3 _ rfl
    change DataW.trod enc Try.prog W 0 (fun _ => true) true n 36 ((cs.drop 0).take (Try.prog.cellsOf 36)) = some y0 at h0
    change DataW.trod enc Try.prog W 0 (fun _ => true) true n 40 ((cs.drop 1).take (Try.prog.cellsOf 40)) = some y1 at h1
    change DataW.trod enc Try.prog W 0 (fun _ => true) true n 22 ((cs.drop 5).take (Try.prog.cellsOf 22)) = some y2 at h2
    change DataW.trod enc Try.prog W 0 (fun _ => true) true n 47 ((cs.drop 6).take (Try.prog.cellsOf 47)) = some y3 at h3
    obtain ⟨z, e0, _, hw⟩ := DataW.trod_int Try.underlying36 h0
    obtain ⟨m, hm, e1⟩ := open_word_m h1
    obtain ⟨cv, C, e2, r2, z2⟩ := open_bytes_at elU8.ht Try.underlying5 (by kernel_rfl) h2
    obtain ⟨sv, S, e3, r3, g3, z3⟩ := open_rows (f := spc) (good := fun p => p.1 < W256 ∧ p.2 < W256) (sz := fun _ _ => True) (size := 8) Try.underlying47 (by kernel_rfl) (by omega) spc_len h3 (fun n _ cs' x' hx => by
      obtain ⟨p, g1, g2⟩ := open_slot_at hx
      exact ⟨p, g1, g2, trivial⟩)
    have hb := bounds_u64 hw
    obtain ⟨z', rfl⟩ := Int.eq_ofNat_of_zero_le hb.1
    rw [c1] at e0
    rw [c4] at e1
    rw [c2] at e2
    rw [c3] at e3
    refine ⟨⟨z', m, cv, C, sv, S⟩, ?_, ⟨by show z' < _; omega, hm, g3⟩, ⟨r2, r3⟩, y0.1, y1.1, y2.1, y3.1, by rw [hx]; rfl, z2, z3.sz⟩
    have q0 : cs.drop 0 = cs := rfl
    have q7 : cs.drop 7 = [] := List.drop_eq_nil_of_le (by omega)
    rw [← q0, piece cs 0 1, e0, piece cs (0 + 1) 4, e1, piece cs (0 + 1 + 4) 1, e2, piece cs (0 + 1 + 4 + 1) 1, e3, q7]
    rfl
def SzH (d : DataW H) (p : Hol) : Prop := ∃ y0 y1, d = .agg [y0, y1] ∧ SzA y1 p.a
set_option maxRecDepth 100000 in
theorem open_hol_at {fuel : Nat} {cs : List Value} {x : DataW H × List MemPlace} (h : DataW.trod enc Try.prog W 0 (fun _ => true) true fuel 130 cs = some x) : ∃ p : Hol, cs = hols p ∧ (p.a.Ok ∧ p.a.In W) ∧ SzH x.1 p := by
  obtain ⟨xs, n, hn, hx, hcl, hlen, hf⟩ := DataW.trod_struct Try.underlying130 h
  have c15 : Try.prog.cellsOf 130 = 15 := by kernel_rfl
  have c7 : Try.prog.cellsOf 49 = 7 := by kernel_rfl
  have c8 : Try.prog.cellsOf 46 = 8 := by kernel_rfl
  have hl : xs.length = 2 := hlen
  rw [c15] at hcl
  match xs, hl with
  | [y0, y1], _ =>
    have h0 := hf 0 _ rfl
    have h1 := hf 1 _ rfl
    change DataW.trod enc Try.prog W 0 (fun _ => true) true n 46 ((cs.drop 0).take (Try.prog.cellsOf 46)) = some y0 at h0
    change DataW.trod enc Try.prog W 0 (fun _ => true) true n 49 ((cs.drop 8).take (Try.prog.cellsOf 49)) = some y1 at h1
    obtain ⟨A, hA, e0⟩ := open_addr_at h0
    obtain ⟨a, e1, k1, i1, s1⟩ := open_acc_at h1
    rw [c8] at e0
    rw [c7] at e1
    refine ⟨⟨A, a, hA⟩, ?_, ⟨k1, i1⟩, y0.1, y1.1, by rw [hx]; rfl, s1⟩
    have q0 : cs.drop 0 = cs := rfl
    have q15 : cs.drop 15 = [] := List.drop_eq_nil_of_le (by omega)
    rw [← q0, piece cs 0 8, e0, piece cs (0 + 8) 7, e1, q15, List.append_nil]
    rfl
set_option maxRecDepth 100000 in
theorem open_holders {r : Reach} {b0 : Nat} {v : Value} {d : DataW H} {p : List MemPlace}
    (hv : Value.okWide Try.prog W r b0 44 v) (h : DataW.Trod enc Try.prog W 0 (fun _ => true) true 44 v d p) :
    ∃ l : List Hol, RowOf hols 15 W v l ∧ (∀ q ∈ l, q.a.Ok ∧ q.a.In W) ∧ SzL SzH d l := by
  obtain ⟨fuel, hf⟩ := h
  obtain ⟨v', l, h1, h2, h3, h4⟩ := open_rows (f := hols) (good := fun q => q.a.Ok ∧ q.a.In W) (sz := SzH) (size := 15) Try.underlying44 (by kernel_rfl) (by omega) hols_len hf (fun n _ cs' x' hx => open_hol_at hx)
  obtain rfl : v = v' := one_val h1 (by obtain ⟨a, len, cap, hh⟩ := okWide_slice Try.underlying44 hv; exact ⟨a, len, cap, hh⟩)
  exact ⟨l, h2, h3, h4⟩
set_option maxRecDepth 100000 in
theorem open_account_y {r : Reach} {b0 : Nat} {v : Value} {d : DataW H} {p : List MemPlace} (hv : Value.okWide Try.prog W r b0 49 v) (h : DataW.Trod enc Try.prog W 0 (fun _ => true) true 49 v d p) :
    ∃ a : Acc, v = .agg (accs a).toArray ∧ (a.Ok ∧ a.In W) ∧ SzA d a := by
  obtain ⟨cs, rfl, _⟩ := okWide_struct Try.underlying49 hv
  obtain ⟨fuel, hf⟩ := h
  obtain ⟨l⟩ := cs
  change DataW.trod enc Try.prog W 0 (fun _ => true) true fuel 49 l = some (d, p) at hf
  obtain ⟨a, rfl, k, i, z⟩ := open_acc_at hf
  exact ⟨a, rfl, ⟨k, i⟩, z⟩
theorem weights_acc {y0 y1 y2 y3 : DataW H} {a : Acc} (z2 : Sz y2 a.c.length) (z3 : Sz y3 a.s.length) (hin : (DataW.weightsEach Try.prog [36, 40, 22, 47] [y0, y1, y2, y3]).all (· ≤ reachBytes) = true) : a.Sz :=
  ⟨by have := Sz.reach hin z2 (j := 2) rfl rfl elU8.ht 1 (by kernel_rfl); omega, by have := Sz.reach hin z3 (j := 3) rfl rfl Try.underlying47 64 (by kernel_rfl); omega⟩
theorem SzA.reach {ts : List TypeId} {ds : List (DataW H)} (h : (DataW.weightsEach Try.prog ts ds).all (· ≤ reachBytes) = true) {j : Nat} {d : DataW H} {a : Acc} (hs : SzA d a) (ht : ts[j]? = some 49) (hd : ds[j]? = some d) : a.Sz := by
  obtain ⟨y0, y1, y2, y3, rfl, z2, z3⟩ := hs
  refine weights_acc z2 z3 (y0 := y0) (y1 := y1) ?_
  rw [List.all_eq_true] at h ⊢
  intro x hx
  exact h x (DataW.weights_mem_each ht hd x (by simpa [DataW.weights, show Try.prog.underlying 49 = some (.struct _) from Try.underlying49] using hx))
theorem SzH.reach {ts : List TypeId} {ds : List (DataW H)} (h : (DataW.weightsEach Try.prog ts ds).all (· ≤ reachBytes) = true) {j : Nat} {d : DataW H} {l : List Hol} (hs : SzL SzH d l) (ht : ts[j]? = some 44) (hd : ds[j]? = some d) : ∀ p ∈ l, p.a.Sz := by
  intro p hp
  obtain ⟨i, hi⟩ := List.getElem?_of_mem hp
  rcases hs with ⟨_, rfl⟩ | ⟨es, sp, rfl, hl, hz⟩
  · simp at hp
  · have hil := (List.getElem?_eq_some_iff.1 hi).1
    have hei : es[i]? = some (es[i]'(by omega)) := List.getElem?_eq_getElem (by omega)
    obtain ⟨y0, y1, h5, h6⟩ := hz i _ p hei hi
    have hmem : es[i]'(by omega) ∈ es := List.getElem_mem _
    rw [h5] at hmem
    refine SzA.reach (ts := [46, 49]) (ds := [y0, y1]) ?_ h6 (j := 1) rfl rfl
    rw [List.all_eq_true] at h ⊢
    intro n hn
    refine h n (DataW.weights_mem_each ht hd n ?_)
    simp only [DataW.weights, show Try.prog.underlying 44 = some (.slice 130) from Try.underlying44, List.mem_cons, List.mem_append]
    refine .inr (.inl (weights_all hmem n ?_))
    simp only [DataW.weights, show Try.prog.underlying 130 = some (.struct _) from Try.underlying130]
    exact hn
set_option maxRecDepth 100000 in
theorem open_address {r : Reach} {b0 : Nat} {v : Value} {d : DataW H} {p : List MemPlace} (hv : Value.okWide Try.prog W r b0 46 v) (h : DataW.Trod enc Try.prog W 0 (fun _ => true) true 46 v d p) : ∃ A : List UInt8, v = .agg (by8 A).toArray ∧ A.length = 8 := by
  obtain ⟨xs, rfl, h2, h3⟩ := open_arr Try.underlying46 Try.underlying5 (by kernel_rfl) (by kernel_rfl) hv h
  refine ⟨xs.map fun z => UInt8.ofNat z.toNat, ?_, by rw [List.length_map, h2]⟩
  unfold by8
  rw [List.map_map]
  congr 2
  exact List.map_congr_left (fun z hz => by show _ = u8v (UInt8.ofNat z.toNat); rw [u8v_of _ (wf_u8_lt (h3 z hz))])
end
end Go.Proofs.Ytakhaanenlblmaa
