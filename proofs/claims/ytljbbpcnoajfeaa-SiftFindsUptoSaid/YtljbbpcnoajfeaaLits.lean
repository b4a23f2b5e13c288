/- Numbers and bytes as cells; what a key's cells read as; how arrays and numbers that come in are read. -/
import Derived.Test.YtljbbpcnoajfeaaBase
import Derived.Test.YtljbbpcnoajfeaaOpenA
import Derived.MapViews
import Derived.DeepKeys2
set_option linter.unusedSimpArgs false
set_option linter.unusedVariables false
namespace Go.Proofs.Ytljbbpcnoajfeaa
open Go.ChangeShapes Go.WideShapes Go.ChangeAt Go.RowKit
def u64v (n : Nat) : Value := .int .u64 (n : Int)
def by8 (l : List UInt8) : List Value := l.map u8v
theorem by8_len (l : List UInt8) : (by8 l).length = l.length := by unfold by8; simp
def zeroB (n : Nat) : List UInt8 := List.replicate n 0
def lit8 (l : List UInt8) : List Lit := l.map fun b => Lit.int .u8 (b.toNat : Int)
def lit64 (n : Nat) : List Lit := [Lit.int .u64 (n : Int)]
theorem mapM_some {α β : Type} (f : α → Option β) (g : α → β) : ∀ (l : List α), (∀ x ∈ l, f x = some (g x)) → l.mapM f = some (l.map g)
  | [], _ => rfl
  | x :: l, h => by
    rw [List.mapM_cons, h x List.mem_cons_self, mapM_some f g l (fun y hy => h y (List.mem_cons_of_mem _ hy))]
    rfl
theorem wf8 (b : UInt8) : (Lit.int .u8 (b.toNat : Int)).wf = true := by
  have := b.toNat_lt
  simp only [Lit.wf, show IntKind.u8.min = 0 from rfl, show IntKind.u8.max = 255 from rfl, Bool.and_eq_true, decide_eq_true_eq]
  omega
theorem wf64 {n : Nat} (h : n < 18446744073709551616) : (Lit.int .u64 (n : Int)).wf = true := by
  simp only [Lit.wf, show IntKind.u64.min = 0 from rfl, show IntKind.u64.max = 18446744073709551615 from rfl, Bool.and_eq_true, decide_eq_true_eq]
  omega
theorem keyL8 (d : Nat) (b : UInt8) : Try.prog.keyLits (d + 1) 5 [u8v b] = some [.int .u8 (b.toNat : Int)] := by
  unfold Program.keyLits
  simp only [show Try.prog.underlying 5 = some (.int .u8) from Try.underlying5, u8v, wf8, and_self, if_true]
theorem keyL64 (d : Nat) {n : Nat} (h : n < 18446744073709551616) : Try.prog.keyLits (d + 1) 44 [u64v n] = some (lit64 n) := by
  unfold Program.keyLits
  simp only [show Try.prog.underlying 44 = some (.int .u64) from Try.underlying44, u64v, wf64 h, and_self, if_true, lit64]
theorem keyA {t : TypeId} {n : Nat} (ht : Try.prog.underlying t = some (.array n 5)) (hc : Try.prog.cellsOf t = n) (d : Nat) (l : List UInt8) (hl : l.length = n) : Try.prog.keyLits (d + 2) t (by8 l) = some (lit8 l) := by
  have hc8 : Try.prog.cellsOf 5 = 1 := by kernel_rfl
  unfold Program.keyLits
  simp only [ht]
  rw [if_pos (by rw [by8_len, hl, hc]), mapM_some _ (fun i => lit8 ((l.drop i).take 1))]
  · simp only [Option.map_some, Option.some.injEq]
    unfold lit8
    have : ∀ (m : Nat) (l : List UInt8), l.length = m → ((List.range m).map fun i => ((l.drop i).take 1).map fun b => Lit.int .u8 (b.toNat : Int)).flatten = l.map fun b => Lit.int .u8 (b.toNat : Int) := by
      intro m
      induction m with
      | zero => intro l h; rw [List.eq_nil_of_length_eq_zero h]; rfl
      | succ m ih =>
        intro l h
        cases l with
        | nil => simp at h
        | cons x l =>
          rw [List.range_succ_eq_map, List.map_cons, List.flatten_cons, List.map_map]
          have := ih l (by simpa using h)
          rw [List.map_cons, ← this]
          rfl
    exact this n l hl
  · intro i hi
    rw [List.mem_range] at hi
    rw [hc8, Nat.mul_one]
    have : ((by8 l).drop i).take 1 = [u8v (l[i]'(by omega))] := by
      rw [List.drop_eq_getElem_cons (by rw [by8_len]; omega)]
      unfold by8
      simp
    rw [this, keyL8, List.drop_eq_getElem_cons (by omega)]
    rfl
theorem one_at {l : List Value} {i : Nat} {v : Value} (h : l[i]? = some v) : (l.drop i).take 1 = [v] := by
  obtain ⟨hi, e⟩ := List.getElem?_eq_some_iff.1 h
  rw [List.drop_eq_getElem_cons hi, e]; rfl
theorem piece {α : Type} (cs : List α) (n m : Nat) : cs.drop n = (cs.drop n).take m ++ cs.drop (n + m) := by
  rw [← List.drop_drop, List.take_append_drop]
theorem wf_bytes (xs : List Int) (hw : ∀ x ∈ xs, (Lit.int .u8 x).wf = true) : ∃ F : List UInt8, F.length = xs.length ∧ xs.map (Value.int .u8) = by8 F := by
  refine ⟨xs.map fun x => UInt8.ofNat x.toNat, by simp, ?_⟩
  unfold by8
  rw [List.map_map]
  refine List.map_congr_left fun x hx => ?_
  have := hw x hx
  simp only [Lit.wf, show IntKind.u8.min = 0 from rfl, show IntKind.u8.max = 255 from rfl, Bool.and_eq_true, decide_eq_true_eq] at this
  simp only [Function.comp_apply, u8v, UInt8.toNat_ofNat']
  congr 1
  omega
section
variable {H : Type} {enc : TypeId × Value → H} {W : World}
theorem open_f32 {n : Nat} {cs : List Value} {x : DataW H × List MemPlace} {t : TypeId} {N : Nat} (ht : Try.prog.underlying t = some (.array N 5)) (hc : Try.prog.cellsOf t = N) (h : DataW.trod enc Try.prog W 0 (fun _ => true) true n t cs = some x) : ∃ F : List UInt8, F.length = N ∧ cs = by8 F := by
  obtain ⟨xs, h1, h2, h3⟩ := trod_arr ht Try.underlying5 (by kernel_rfl) hc h
  obtain ⟨F, h4, h5⟩ := wf_bytes xs h3
  exact ⟨F, by omega, h1.trans h5⟩
theorem open_f64 {n : Nat} {cs : List Value} {x : DataW H × List MemPlace} (h : DataW.trod enc Try.prog W 0 (fun _ => true) true n 44 cs = some x) : ∃ N : Nat, N < 18446744073709551616 ∧ cs = [u64v N] := by
  obtain ⟨z, h1, _, h3⟩ := DataW.trod_int Try.underlying44 h
  simp only [Lit.wf, show IntKind.u64.min = 0 from rfl, show IntKind.u64.max = 18446744073709551615 from rfl, Bool.and_eq_true, decide_eq_true_eq] at h3
  exact ⟨z.toNat, by omega, by rw [h1]; unfold u64v; congr 2; omega⟩
end
end Go.Proofs.Ytljbbpcnoajfeaa
