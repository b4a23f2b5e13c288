/- How a header that comes in is read; '==' of headers. -/
import Derived.Test.YtffkjjpjfehcnaaHdr1
import Derived.Test.YtffkjjpjfehcnaaOpenA
import Derived.MapViews
import Derived.DeepKeys2
set_option linter.unusedSimpArgs false
set_option linter.unusedVariables false
namespace Go.Proofs.Ytffkjjpjfehcnaa
open Go.ChangeShapes Go.WideShapes Go.ChangeAt Go.RowKit
theorem keyTypeHd : Try.prog.keyTypeAt 4 28 = true := by kernel_rfl
theorem cellsHd : Try.prog.cellsOf 28 = 204 := by kernel_rfl
theorem aggHd : Agg Try.prog 28 204 := ⟨_, Try.underlying28, rfl, by kernel_rfl⟩
def lit8 (l : List UInt8) : List Lit := l.map fun b => Lit.int .u8 (b.toNat : Int)
def lit64 (n : Nat) : List Lit := [Lit.int .u64 (n : Int)]
theorem mapM_some {α β : Type} (f : α → Option β) (g : α → β) : ∀ (l : List α), (∀ x ∈ l, f x = some (g x)) → l.mapM f = some (l.map g)
  | [], _ => rfl
  | x :: l, h => by
    rw [List.mapM_cons, h x List.mem_cons_self, mapM_some f g l (fun y hy => h y (List.mem_cons_of_mem _ hy))]
    rfl
theorem wf8 (b : UInt8) : (Lit.int .u8 (b.toNat : Int)).wf = true := by
  have := b.toNat_lt
  simp only [Lit.wf, show IntKind.u8.min = 0 from rfl, show IntKind.u8.max = 255 from rfl, Bool.and_eq_true, decide_eq_true_eq]
  omega
theorem wf64 {n : Nat} (h : n < 18446744073709551616) : (Lit.int .u64 (n : Int)).wf = true := by
  simp only [Lit.wf, show IntKind.u64.min = 0 from rfl, show IntKind.u64.max = 18446744073709551615 from rfl, Bool.and_eq_true, decide_eq_true_eq]
  omega
theorem keyL8 (d : Nat) (b : UInt8) : Try.prog.keyLits (d + 1) 5 [u8v b] = some [.int .u8 (b.toNat : Int)] := by
  unfold Program.keyLits
  simp only [show Try.prog.underlying 5 = some (.int .u8) from Try.underlying5, u8v, wf8, and_self, if_true]
theorem keyL64 (d : Nat) {n : Nat} (h : n < 18446744073709551616) : Try.prog.keyLits (d + 1) 24 [u64v n] = some (lit64 n) := by
  unfold Program.keyLits
  simp only [show Try.prog.underlying 24 = some (.int .u64) from Try.underlying24, u64v, wf64 h, and_self, if_true, lit64]
theorem keyA {t : TypeId} {n : Nat} (ht : Try.prog.underlying t = some (.array n 5)) (hc : Try.prog.cellsOf t = n) (d : Nat) (l : List UInt8) (hl : l.length = n) : Try.prog.keyLits (d + 2) t (by8 l) = some (lit8 l) := by
  have hc8 : Try.prog.cellsOf 5 = 1 := by kernel_rfl
  unfold Program.keyLits
  simp only [ht]
  rw [if_pos (by rw [by8_len, hl, hc]), mapM_some _ (fun i => lit8 ((l.drop i).take 1))]
  · simp only [Option.map_some, Option.some.injEq]
    unfold lit8
    have : ∀ (m : Nat) (l : List UInt8), l.length = m → ((List.range m).map fun i => ((l.drop i).take 1).map fun b => Lit.int .u8 (b.toNat : Int)).flatten = l.map fun b => Lit.int .u8 (b.toNat : Int) := by
      intro m
      induction m with
      | zero => intro l h; rw [List.eq_nil_of_length_eq_zero h]; rfl
      | succ m ih =>
        intro l h
        cases l with
        | nil => simp at h
        | cons x l =>
          rw [List.range_succ_eq_map, List.map_cons, List.flatten_cons, List.map_map]
          have := ih l (by simpa using h)
          rw [List.map_cons, ← this]
          rfl
    exact this n l hl
  · intro i hi
    rw [List.mem_range] at hi
    rw [hc8, Nat.mul_one]
    have : ((by8 l).drop i).take 1 = [u8v (l[i]'(by omega))] := by
      rw [List.drop_eq_getElem_cons (by rw [by8_len]; omega)]
      unfold by8
      simp
    rw [this, keyL8, List.drop_eq_getElem_cons (by omega)]
    rfl
def hls (h : Hd) : List Lit := [lit8 h.par, lit64 h.num, lit64 h.tim, lit8 h.kee, lit64 h.lim, lit64 h.use, lit8 h.blo, lit8 h.sta, lit8 h.txs, lit8 h.rcs, lit8 h.nex].flatten
theorem one_at {l : List Value} {i : Nat} {v : Value} (h : l[i]? = some v) : (l.drop i).take 1 = [v] := by
  obtain ⟨hi, e⟩ := List.getElem?_eq_some_iff.1 h
  rw [List.drop_eq_getElem_cons hi, e]; rfl
theorem keyHd {h : Hd} (k : h.Ok) : Try.prog.keyLits 4 28 (hdcs h) = some (hls h) := by
  have c32 : Try.prog.cellsOf 23 = 32 := by kernel_rfl
  have c8 : Try.prog.cellsOf 26 = 8 := by kernel_rfl
  have c1 : Try.prog.cellsOf 24 = 1 := by kernel_rfl
  have a32 := fun l hl => keyA (t := 23) (n := 32) Try.underlying23 c32 1 l hl
  have a8 := fun l hl => keyA (t := 26) (n := 8) Try.underlying26 c8 1 l hl
  have e0 := a32 h.par k.par
  have e1 := keyL64 2 k.num
  have e2 := keyL64 2 k.tim
  have e3 := a8 h.kee k.kee
  have e4 := keyL64 2 k.lim
  have e5 := keyL64 2 k.use
  have e6 := a32 h.blo k.blo
  have e7 := a32 h.sta k.sta
  have e8 := a32 h.txs k.txs
  have e9 := a32 h.rcs k.rcs
  have e10 := a32 h.nex k.nex
  rw [← hdcs_par k] at e0
  rw [← one_at (hdcs_num k)] at e1
  rw [← one_at (hdcs_tim k)] at e2
  rw [← hdcs_kee k] at e3
  rw [← one_at (hdcs_lim k)] at e4
  rw [← one_at (hdcs_use k)] at e5
  rw [← hdcs_blo k] at e6
  rw [← hdcs_sta k] at e7
  rw [← hdcs_txs k] at e8
  rw [← hdcs_rcs k] at e9
  rw [← hdcs_nex k] at e10
  unfold Program.keyLits
  simp only [show Try.prog.underlying 28 = some (.struct _) from Try.underlying28]
  rw [if_pos ⟨by rw [hdcs_len k, cellsHd], by kernel_rfl⟩]
  simp only [List.mapM_cons, List.mapM_nil, c32, c8, c1, e0, e1, e2, e3, e4, e5, e6, e7, e8, e9, e10]
  rfl
theorem formedHd {h : Hd} (k : h.Ok) : (Value.agg (hdcs h).toArray).formed Try.prog 28 = true := by
  unfold Value.formed
  simp only [show Try.prog.underlying 28 = some (.struct _) from Try.underlying28, cellsHd, List.size_toArray, hdcs_len k, beq_self_eq_true]
theorem run_eqHd {h : Hd} (k : h.Ok) (w : World) : (binOp .eql 28 (.agg (hdcs h).toArray) (.agg (hdcs h).toArray)).run Try.prog w = .ok (.bool true) w := by
  obtain ⟨r, hr, hi⟩ := run_equalIn_deep 9996 4 28 keyTypeHd w 4 4 (.agg (hdcs h).toArray) (.agg (hdcs h).toArray) (hls h) (hls h) (formedHd k) (formedHd k) (keyHd k) (keyHd k)
  have h2 : r = true := hi.2 rfl
  rw [h2] at hr
  have h3 : (Op.equalIn 10000 28 (.agg (hdcs h).toArray) (.agg (hdcs h).toArray)).run Try.prog w = .ok true w := hr
  rw [run_eql_struct, h3]; rfl
theorem guard_eqHd (x y : Hd) (o1 o2 : Operand) (w1 : World) : (eqGuard .eql 28 o1 o2 (.agg (hdcs x).toArray) (.agg (hdcs y).toArray)).run Try.prog w1 = .ok () w1 :=
  run_eqGuard_agg (P := Try.prog) (w := w1) .eql 28 o1 o2 _ _ (by kernel_rfl)
theorem piece {α : Type} (cs : List α) (n m : Nat) : cs.drop n = (cs.drop n).take m ++ cs.drop (n + m) := by
  rw [← List.drop_drop, List.take_append_drop]
theorem wf_bytes (xs : List Int) (hw : ∀ x ∈ xs, (Lit.int .u8 x).wf = true) : ∃ F : List UInt8, F.length = xs.length ∧ xs.map (Value.int .u8) = by8 F := by
  refine ⟨xs.map fun x => UInt8.ofNat x.toNat, by simp, ?_⟩
  unfold by8
  rw [List.map_map]
  refine List.map_congr_left fun x hx => ?_
  have := hw x hx
  simp only [Lit.wf, show IntKind.u8.min = 0 from rfl, show IntKind.u8.max = 255 from rfl, Bool.and_eq_true, decide_eq_true_eq] at this
  simp only [Function.comp_apply, u8v, UInt8.toNat_ofNat']
  congr 1
  omega
section
variable {H : Type} {enc : TypeId × Value → H} {W : World}
theorem open_f32 {n : Nat} {cs : List Value} {x : DataW H × List MemPlace} {t : TypeId} {N : Nat} (ht : Try.prog.underlying t = some (.array N 5)) (hc : Try.prog.cellsOf t = N) (h : DataW.trod enc Try.prog W 0 (fun _ => true) true n t cs = some x) : ∃ F : List UInt8, F.length = N ∧ cs = by8 F := by
  obtain ⟨xs, h1, h2, h3⟩ := trod_arr ht Try.underlying5 (by kernel_rfl) hc h
  obtain ⟨F, h4, h5⟩ := wf_bytes xs h3
  exact ⟨F, by omega, h1.trans h5⟩
theorem open_f64 {n : Nat} {cs : List Value} {x : DataW H × List MemPlace} (h : DataW.trod enc Try.prog W 0 (fun _ => true) true n 24 cs = some x) : ∃ N : Nat, N < 18446744073709551616 ∧ cs = [u64v N] := by
  obtain ⟨z, h1, _, h3⟩ := DataW.trod_int Try.underlying24 h
  simp only [Lit.wf, show IntKind.u64.min = 0 from rfl, show IntKind.u64.max = 18446744073709551615 from rfl, Bool.and_eq_true, decide_eq_true_eq] at h3
  exact ⟨z.toNat, by omega, by rw [h1]; unfold u64v; congr 2; omega⟩
set_option maxRecDepth 100000 in
theorem open_header_at {fuel : Nat} {cs : List Value} {x : DataW H × List MemPlace} (h : DataW.trod enc Try.prog W 0 (fun _ => true) true fuel 28 cs = some x) : ∃ h : Hd, h.Ok ∧ cs = hdcs h := by
  obtain ⟨xs, n, hn, hx, hcl, hlen, hf⟩ := DataW.trod_struct Try.underlying28 h
  have c32 : Try.prog.cellsOf 23 = 32 := by kernel_rfl
  have c8 : Try.prog.cellsOf 26 = 8 := by kernel_rfl
  have c1 : Try.prog.cellsOf 24 = 1 := by kernel_rfl
  have hl : xs.length = 11 := hlen
  rw [cellsHd] at hcl
  match xs, hl with
  | [y0, y1, y2, y3, y4, y5, y6, y7, y8, y9, y10], _ =>
    have h0 := hf 0 _ rfl
    have h1 := hf 1 _ rfl
    have h2 := hf 2 _ rfl
    have h3 := hf 3 _ rfl
    have h4 := hf 4 _ rfl
    have h5 := hf 5 _ rfl
    have h6 := hf 6 _ rfl
    have h7 := hf 7 _ rfl
    have h8 := hf 8 _ rfl
    have h9 := hf 9 _ rfl
    have h10 := hf 10 _ rfl
    change DataW.trod enc Try.prog W 0 (fun _ => true) true n 23 ((cs.drop 0).take (Try.prog.cellsOf 23)) = some y0 at h0
    change DataW.trod enc Try.prog W 0 (fun _ => true) true n 24 ((cs.drop 32).take (Try.prog.cellsOf 24)) = some y1 at h1
    change DataW.trod enc Try.prog W 0 (fun _ => true) true n 24 ((cs.drop 33).take (Try.prog.cellsOf 24)) = some y2 at h2
    change DataW.trod enc Try.prog W 0 (fun _ => true) true n 26 ((cs.drop 34).take (Try.prog.cellsOf 26)) = some y3 at h3
    change DataW.trod enc Try.prog W 0 (fun _ => true) true n 24 ((cs.drop 42).take (Try.prog.cellsOf 24)) = some y4 at h4
    change DataW.trod enc Try.prog W 0 (fun _ => true) true n 24 ((cs.drop 43).take (Try.prog.cellsOf 24)) = some y5 at h5
    change DataW.trod enc Try.prog W 0 (fun _ => true) true n 23 ((cs.drop 44).take (Try.prog.cellsOf 23)) = some y6 at h6
    change DataW.trod enc Try.prog W 0 (fun _ => true) true n 23 ((cs.drop 76).take (Try.prog.cellsOf 23)) = some y7 at h7
    change DataW.trod enc Try.prog W 0 (fun _ => true) true n 23 ((cs.drop 108).take (Try.prog.cellsOf 23)) = some y8 at h8
    change DataW.trod enc Try.prog W 0 (fun _ => true) true n 23 ((cs.drop 140).take (Try.prog.cellsOf 23)) = some y9 at h9
    change DataW.trod enc Try.prog W 0 (fun _ => true) true n 23 ((cs.drop 172).take (Try.prog.cellsOf 23)) = some y10 at h10
    obtain ⟨f0, l0, e0⟩ := open_f32 Try.underlying23 c32 h0
    obtain ⟨f1, l1, e1⟩ := open_f64 h1
    obtain ⟨f2, l2, e2⟩ := open_f64 h2
    obtain ⟨f3, l3, e3⟩ := open_f32 Try.underlying26 c8 h3
    obtain ⟨f4, l4, e4⟩ := open_f64 h4
    obtain ⟨f5, l5, e5⟩ := open_f64 h5
    obtain ⟨f6, l6, e6⟩ := open_f32 Try.underlying23 c32 h6
    obtain ⟨f7, l7, e7⟩ := open_f32 Try.underlying23 c32 h7
    obtain ⟨f8, l8, e8⟩ := open_f32 Try.underlying23 c32 h8
    obtain ⟨f9, l9, e9⟩ := open_f32 Try.underlying23 c32 h9
    obtain ⟨f10, l10, e10⟩ := open_f32 Try.underlying23 c32 h10
    rw [c32] at e0 e6 e7 e8 e9 e10
    rw [c1] at e1 e2 e4 e5
    rw [c8] at e3
    refine ⟨⟨f0, f1, f2, f3, f4, f5, f6, f7, f8, f9, f10⟩, ⟨l0, l1, l2, l3, l4, l5, l6, l7, l8, l9, l10⟩, ?_⟩
    have q0 : cs.drop 0 = cs := rfl
    have q204 : cs.drop 204 = [] := List.drop_eq_nil_of_le (by omega)
    rw [← q0, piece cs 0 32, e0, piece cs (0 + 32) 1, e1, piece cs (0 + 32 + 1) 1, e2, piece cs (0 + 32 + 1 + 1) 8, e3, piece cs (0 + 32 + 1 + 1 + 8) 1, e4, piece cs (0 + 32 + 1 + 1 + 8 + 1) 1, e5, piece cs (0 + 32 + 1 + 1 + 8 + 1 + 1) 32, e6,
      piece cs (0 + 32 + 1 + 1 + 8 + 1 + 1 + 32) 32, e7, piece cs (0 + 32 + 1 + 1 + 8 + 1 + 1 + 32 + 32) 32, e8, piece cs (0 + 32 + 1 + 1 + 8 + 1 + 1 + 32 + 32 + 32) 32, e9, piece cs (0 + 32 + 1 + 1 + 8 + 1 + 1 + 32 + 32 + 32 + 32) 32, e10, q204, List.append_nil]
    rfl
set_option maxRecDepth 100000 in
theorem open_header {r : Reach} {b0 : Nat} {v : Value} {d : DataW H} {p : List MemPlace} (hv : Value.okWide Try.prog W r b0 28 v) (h : DataW.Trod enc Try.prog W 0 (fun _ => true) true 28 v d p) : ∃ h : Hd, v = .agg (hdcs h).toArray ∧ h.Ok := by
  obtain ⟨cs, rfl, _⟩ := okWide_struct Try.underlying28 hv
  obtain ⟨fuel, hf⟩ := h
  obtain ⟨h, h1, h2⟩ := open_header_at hf
  have h3 : cs.toList = hdcs h := h2
  exact ⟨h, congrArg Value.agg (by rw [← h3]), h1⟩
end
end Go.Proofs.Ytffkjjpjfehcnaa
