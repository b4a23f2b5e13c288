/- How pages and filters that come in are read. -/
import Derived.Test.YtljbbpcnoajfeaaSf8
import Derived.Test.YtljbbpcnoajfeaaOpenA
import Derived.Test.YtljbbpcnoajfeaaLits
import Derived.OpenShut
set_option linter.unusedSimpArgs false
set_option linter.unusedVariables false
namespace Go.Proofs.Ytljbbpcnoajfeaa
open Go.ChangeShapes Go.WideShapes Go.ChangeAt Go.RowKit
theorem word_ofG (A : List Int) (hl : A.length = 4) (hw : ∀ x ∈ A, (Lit.int .u64 x).wf = true) : ∃ N, N < W256 ∧ A = limI N := by
  match A, hl with
  | [x0, x1, x2, x3], _ =>
    have h0 := bounds_u64 (hw x0 (by simp))
    have h1 := bounds_u64 (hw x1 (by simp))
    have h2 := bounds_u64 (hw x2 (by simp))
    have h3 := bounds_u64 (hw x3 (by simp))
    obtain ⟨y0, rfl⟩ := Int.eq_ofNat_of_zero_le h0.1
    obtain ⟨y1, rfl⟩ := Int.eq_ofNat_of_zero_le h1.1
    obtain ⟨y2, rfl⟩ := Int.eq_ofNat_of_zero_le h2.1
    obtain ⟨y3, rfl⟩ := Int.eq_ofNat_of_zero_le h3.1
    clear hw
    refine ⟨y0 + 18446744073709551616 * y1 + 340282366920938463463374607431768211456 * y2 + 6277101735386680763835789423207666416102355444464034512896 * y3, by unfold W256; omega, ?_⟩
    unfold limI
    rw [lim0, lim1, lim2, lim3]
    congr 1
    · omega
    · congr 1
      · omega
      · congr 1
        · omega
        · congr 1; omega
def lgW (l : Lgv) : Nat := 1 + l.tops.length + l.dat.length
def rcW (r : Rcp) : Nat := 1 + (r.ls.map lgW).sum
def pgW (p : Pgv) : Nat := 1 + (p.rs.map rcW).sum
structure LgG (W : World) (l : Lgv) : Prop where
  i : l.In W
  w : ∀ x ∈ l.tops, x < W256
structure RcG (W : World) (r : Rcp) : Prop where
  row : RowOf lgc 10 W r.lv r.ls
  ls : ∀ l ∈ r.ls, LgG W l
structure PgG (W : World) (p : Pgv) : Prop where
  row : RowOf rpc 35 W p.rv p.rs
  rs : ∀ r ∈ p.rs, RcG W r
section
variable {H : Type} {enc : TypeId × Value → H} {W : World}
theorem open_wordG {fuel : Nat} {cs : List Value} {x : DataW H × List MemPlace} (h : DataW.trod enc Try.prog W 0 (fun _ => true) true fuel 142 cs = some x) : ∃ N, N < W256 ∧ cs = wcs N := by
  obtain ⟨xs, e1, e2, e3⟩ := trod_arr Try.underlying142 Try.underlying44 (by kernel_rfl) (by kernel_rfl) h
  obtain ⟨N, hN, rfl⟩ := word_ofG xs e2 e3
  exact ⟨N, hN, e1⟩
theorem open_wordsG {fuel : Nat} {cs : List Value} {x : DataW H × List MemPlace} (h : DataW.trod enc Try.prog W 0 (fun _ => true) true fuel 34 cs = some x) : ∃ v, ∃ l : List Nat, cs = [v] ∧ RowOf wcs 4 W v l ∧ (∀ y ∈ l, y < W256) ∧ Sz x.1 l.length := by
  obtain ⟨v, l, h1, h2, h3, h4⟩ := open_rows (f := wcs) (good := fun y => y < W256) (sz := fun _ _ => True) (size := 4) Try.underlying34 (by kernel_rfl) (by omega) wcs_len h (fun n _ cs' x' hx => by
    obtain ⟨N, hN, e⟩ := open_wordG hx
    exact ⟨N, e, hN, trivial⟩)
  exact ⟨v, l, h1, h2, h3, h4.sz⟩
theorem open_adsG {fuel : Nat} {cs : List Value} {x : DataW H × List MemPlace} (h : DataW.trod enc Try.prog W 0 (fun _ => true) true fuel 33 cs = some x) : ∃ v, ∃ l : List Ad8, cs = [v] ∧ RowOf adc 8 W v l ∧ Sz x.1 l.length := by
  obtain ⟨v, l, h1, h2, _, h4⟩ := open_rows (f := adc) (good := fun _ => True) (sz := fun _ _ => True) (size := 8) Try.underlying33 (by kernel_rfl) (by omega) adc_len h (fun n _ cs' x' hx => by
    obtain ⟨F, hF, e⟩ := open_f32 Try.underlying46 (by kernel_rfl) hx
    exact ⟨⟨F, hF⟩, e, trivial, trivial⟩)
  exact ⟨v, l, h1, h2, h4.sz⟩
set_option maxRecDepth 100000 in
theorem open_logG {fuel : Nat} {cs : List Value} {x : DataW H × List MemPlace} (h : DataW.trod enc Try.prog W 0 (fun _ => true) true fuel 84 cs = some x) : ∃ l : Lgv, cs = lgc l ∧ LgG W l ∧ lgW l ≤ Rows.uptoBulk x.1 := by
  obtain ⟨xs, n, hn, hx, hcl, hlen, hf⟩ := DataW.trod_struct Try.underlying84 h
  have c10 : Try.prog.cellsOf 84 = 10 := by kernel_rfl
  have c8 : Try.prog.cellsOf 46 = 8 := by kernel_rfl
  have c1 : Try.prog.cellsOf 34 = 1 := by kernel_rfl
  have c2 : Try.prog.cellsOf 22 = 1 := by kernel_rfl
  have hl : xs.length = 3 := hlen
  rw [c10] at hcl
  match xs, hl with
  | [y0, y1, y2], _ =>
    have h0 := hf 0 _ rfl
    have h1 := hf 1 _ rfl
    have h2 := hf 2 _ rfl
    change DataW.trod enc Try.prog W 0 (fun _ => true) true n 46 ((cs.drop 0).take (Try.prog.cellsOf 46)) = some y0 at h0
    change DataW.trod enc Try.prog W 0 (fun _ => true) true n 34 ((cs.drop 8).take (Try.prog.cellsOf 34)) = some y1 at h1
    change DataW.trod enc Try.prog W 0 (fun _ => true) true n 22 ((cs.drop 9).take (Try.prog.cellsOf 22)) = some y2 at h2
    obtain ⟨f0, l0, e0⟩ := open_f32 Try.underlying46 c8 h0
    obtain ⟨tv, T, e1, r1, k1, z1⟩ := open_wordsG h1
    obtain ⟨dv, D, e2, r2, z2⟩ := open_bytes_at elU8.ht Try.underlying5 (by kernel_rfl) h2
    rw [c8] at e0
    rw [c1] at e1
    rw [c2] at e2
    have hd : x.1 = .agg [y0.1, y1.1, y2.1] := by rw [hx]; rfl
    refine ⟨⟨f0, l0, tv, T, dv, D⟩, ?_, ⟨⟨r1, r2⟩, k1⟩, ?_⟩
    · have q0 : cs.drop 0 = cs := rfl
      have q10 : cs.drop 10 = [] := List.drop_eq_nil_of_le (by omega)
      rw [← q0, piece cs 0 8, e0, piece cs (0 + 8) 1, e1, piece cs (0 + 8 + 1) 1, e2, q10]
      rfl
    · have a1 := upto_sz z1
      have a2 := upto_sz z2
      have a0 := upto_one y0.1
      rw [hd]
      unfold lgW
      simp only [Rows.uptoBulk, Rows.uptoBulkAll]
      omega
set_option maxRecDepth 100000 in
theorem open_rcG {fuel : Nat} {cs : List Value} {x : DataW H × List MemPlace} (h : DataW.trod enc Try.prog W 0 (fun _ => true) true fuel 91 cs = some x) : ∃ r : Rcp, cs = rpc r ∧ RcG W r ∧ rcW r ≤ Rows.uptoBulk x.1 := by
  obtain ⟨xs, n, hn, hx, hcl, hlen, hf⟩ := DataW.trod_struct Try.underlying91 h
  have c35 : Try.prog.cellsOf 91 = 35 := by kernel_rfl
  have c1 : Try.prog.cellsOf 4 = 1 := by kernel_rfl
  have c2 : Try.prog.cellsOf 44 = 1 := by kernel_rfl
  have c3 : Try.prog.cellsOf 43 = 32 := by kernel_rfl
  have c4 : Try.prog.cellsOf 88 = 1 := by kernel_rfl
  have hl : xs.length = 4 := hlen
  rw [c35] at hcl
  match xs, hl with
  | [y0, y1, y2, y3], _ =>
    have h0 := hf 0 _ rfl
    have h1 := hf 1 _ rfl
    have h2 := hf 2 _ rfl
    have h3 := hf 3 _ rfl
    change DataW.trod enc Try.prog W 0 (fun _ => true) true n 4 ((cs.drop 0).take (Try.prog.cellsOf 4)) = some y0 at h0
    change DataW.trod enc Try.prog W 0 (fun _ => true) true n 44 ((cs.drop 1).take (Try.prog.cellsOf 44)) = some y1 at h1
    change DataW.trod enc Try.prog W 0 (fun _ => true) true n 43 ((cs.drop 2).take (Try.prog.cellsOf 43)) = some y2 at h2
    change DataW.trod enc Try.prog W 0 (fun _ => true) true n 88 ((cs.drop 34).take (Try.prog.cellsOf 88)) = some y3 at h3
    obtain ⟨g, e0, _⟩ := DataW.trod_bool Try.underlying4 h0
    obtain ⟨u, hu, e1⟩ := open_f64 h1
    obtain ⟨bl, lb, e2⟩ := open_f32 Try.underlying43 c3 h2
    obtain ⟨lv, ls, e3, r3, g3, z3⟩ := open_rows (f := lgc) (good := LgG W) (sz := fun d l => lgW l ≤ Rows.uptoBulk d) (size := 10) Try.underlying88 (by kernel_rfl) (by omega) lgc_len h3 (fun n _ cs' x' hx => open_logG hx)
    rw [c1] at e0
    rw [c2] at e1
    rw [c3] at e2
    rw [c4] at e3
    have hd : x.1 = .agg [y0.1, y1.1, y2.1, y3.1] := by rw [hx]; rfl
    have q0 : cs.drop 0 = cs := rfl
    have q35 : cs.drop 35 = [] := List.drop_eq_nil_of_le (by omega)
    refine ⟨⟨g, u, hu, bl, lb, lv, ls⟩, ?_, ⟨r3, g3⟩, ?_⟩
    · rw [← q0, piece cs 0 1, e0, piece cs (0 + 1) 1, e1, piece cs (0 + 1 + 1) 32, e2, piece cs (0 + 1 + 1 + 32) 1, e3, q35]
      rfl
    · have a3 := upto_rows (m := lgW) (fun d y hy => hy) z3
      have a0 := upto_one y0.1
      rw [hd]
      unfold rcW
      simp only [Rows.uptoBulk, Rows.uptoBulkAll]
      omega
set_option maxRecDepth 100000 in
theorem open_pgG {fuel : Nat} {cs : List Value} {x : DataW H × List MemPlace} (h : DataW.trod enc Try.prog W 0 (fun _ => true) true fuel 95 cs = some x) : ∃ p : Pgv, cs = pgc p ∧ PgG W p ∧ pgW p ≤ Rows.uptoBulk x.1 := by
  obtain ⟨xs, n, hn, hx, hcl, hlen, hf⟩ := DataW.trod_struct Try.underlying95 h
  have c0 : Try.prog.cellsOf 95 = 2 := by kernel_rfl
  have c2 : Try.prog.cellsOf 44 = 1 := by kernel_rfl
  have c4 : Try.prog.cellsOf 93 = 1 := by kernel_rfl
  have hl : xs.length = 2 := hlen
  rw [c0] at hcl
  match xs, hl with
  | [y0, y1], _ =>
    have h0 := hf 0 _ rfl
    have h1 := hf 1 _ rfl
    change DataW.trod enc Try.prog W 0 (fun _ => true) true n 44 ((cs.drop 0).take (Try.prog.cellsOf 44)) = some y0 at h0
    change DataW.trod enc Try.prog W 0 (fun _ => true) true n 93 ((cs.drop 1).take (Try.prog.cellsOf 93)) = some y1 at h1
    obtain ⟨u, hu, e0⟩ := open_f64 h0
    obtain ⟨rv, rs, e1, r1, g1, z1⟩ := open_rows (f := rpc) (good := RcG W) (sz := fun d l => rcW l ≤ Rows.uptoBulk d) (size := 35) Try.underlying93 (by kernel_rfl) (by omega) rpc_len h1 (fun n _ cs' x' hx => open_rcG hx)
    rw [c2] at e0
    rw [c4] at e1
    have hd : x.1 = .agg [y0.1, y1.1] := by rw [hx]; rfl
    have q0 : cs.drop 0 = cs := rfl
    have q2 : cs.drop 2 = [] := List.drop_eq_nil_of_le (by omega)
    refine ⟨⟨u, hu, rv, rs⟩, ?_, ⟨r1, g1⟩, ?_⟩
    · rw [← q0, piece cs 0 1, e0, piece cs (0 + 1) 1, e1, q2]
      rfl
    · have a3 := upto_rows (m := rcW) (fun d y hy => hy) z1
      have a0 := upto_one y0.1
      rw [hd]
      unfold pgW
      simp only [Rows.uptoBulk, Rows.uptoBulkAll]
      omega
def SzPg (d : DataW H) (l : List Pgv) : Prop := (l.map pgW).sum ≤ Rows.uptoBulk d
set_option maxRecDepth 100000 in
theorem open_pages {r : Reach} {b0 : Nat} {v : Value} {d : DataW H} {p : List MemPlace}
    (hv : Value.okWide Try.prog W r b0 32 v) (h : DataW.Trod enc Try.prog W 0 (fun _ => true) true 32 v d p) :
    ∃ l : List Pgv, RowOf pgc 2 W v l ∧ (∀ o ∈ l, PgG W o) ∧ SzPg d l := by
  obtain ⟨fuel, hf⟩ := h
  obtain ⟨v', l, h1, h2, h3, h4⟩ := open_rows (f := pgc) (good := PgG W) (sz := fun d l => pgW l ≤ Rows.uptoBulk d) (size := 2) Try.underlying32 (by kernel_rfl) (by omega) pgc_len hf (fun n _ cs' x' hx => open_pgG hx)
  obtain rfl : v = v' := one_val h1 (by obtain ⟨a, len, cap, hh⟩ := okWide_slice Try.underlying32 hv; exact ⟨a, len, cap, hh⟩)
  exact ⟨l, h2, h3, upto_rows (m := pgW) (fun d y hy => hy) h4⟩
set_option maxRecDepth 100000 in
theorem open_filter {r : Reach} {b0 : Nat} {v : Value} {d : DataW H} {p : List MemPlace} (hv : Value.okWide Try.prog W r b0 36 v) (h : DataW.Trod enc Try.prog W 0 (fun _ => true) true 36 v d p) :
    ∃ f : Flt, v = .agg (flc f).toArray ∧ (f.In W ∧ ∀ x ∈ f.T, x < W256) ∧ f.A.length + f.T.length ≤ Rows.uptoBulk d := by
  obtain ⟨cs, rfl, _⟩ := okWide_struct Try.underlying36 hv
  obtain ⟨fuel, hf⟩ := h
  obtain ⟨xs, n, hn, hx, hcl, hlen, hfi⟩ := DataW.trod_struct Try.underlying36 hf
  have c0 : Try.prog.cellsOf 36 = 2 := by kernel_rfl
  have c1 : Try.prog.cellsOf 33 = 1 := by kernel_rfl
  have c2 : Try.prog.cellsOf 34 = 1 := by kernel_rfl
  rw [c0] at hcl
  have hl : xs.length = 2 := hlen
  obtain ⟨l⟩ := cs
  change l.length = 2 at hcl
  change ∀ (i : Nat) (f : Field), _ → DataW.trod enc Try.prog W 0 (fun _ => true) true n f.type ((l.drop f.offset).take (Try.prog.cellsOf f.type)) = xs[i]? at hfi
  match xs, hl with
  | [y0, y1], _ =>
    have h0 := hfi 0 _ rfl
    have h1 := hfi 1 _ rfl
    change DataW.trod enc Try.prog W 0 (fun _ => true) true n 33 ((l.drop 0).take (Try.prog.cellsOf 33)) = some y0 at h0
    change DataW.trod enc Try.prog W 0 (fun _ => true) true n 34 ((l.drop 1).take (Try.prog.cellsOf 34)) = some y1 at h1
    obtain ⟨av, A, e0, r0, z0⟩ := open_adsG h0
    obtain ⟨tv, T, e1, r1, k1, z1⟩ := open_wordsG h1
    rw [c1] at e0
    rw [c2] at e1
    have hdd : d = .agg [y0.1, y1.1] := congrArg Prod.fst hx
    have q0 : l.drop 0 = l := rfl
    have q2 : l.drop 2 = [] := List.drop_eq_nil_of_le (by omega)
    refine ⟨⟨av, A, tv, T⟩, ?_, ⟨⟨r0, r1⟩, k1⟩, ?_⟩
    · have : l = flc ⟨av, A, tv, T⟩ := by
        rw [← q0, piece l 0 1, e0, piece l (0 + 1) 1, e1, q2]
        rfl
      rw [← this]
    · have a0 := upto_sz z0
      have a1 := upto_sz z1
      rw [hdd]; simp only [Rows.uptoBulk, Rows.uptoBulkAll]; omega
end
/-- pages of at most 1048576 in all -/
theorem sum_le {α : Type} {m : α → Nat} {l : List α} {x : α} (h : x ∈ l) : m x ≤ (l.map m).sum := by
  induction l with
  | nil => cases h
  | cons y l ih =>
    rw [List.map_cons, List.sum_cons]
    rcases List.mem_cons.1 h with rfl | h
    · omega
    · have := ih h; omega
theorem len_sum {α : Type} {m : α → Nat} (hm : ∀ x, 1 ≤ m x) : ∀ l : List α, l.length ≤ (l.map m).sum
  | [] => by simp
  | x :: l => by
    have := len_sum hm l
    have := hm x
    rw [List.map_cons, List.sum_cons, List.length_cons]; omega
theorem pgs_of {W : World} {v : Value} {ps : List Pgv} (h : RowOf pgc 2 W v ps) (ho : ∀ o ∈ ps, PgG W o) (hz : (ps.map pgW).sum ≤ 1048576) : Pgs W v ps ∧ PgOk ps := by
  have hp : ∀ p ∈ ps, pgW p ≤ 1048576 := fun p hp => Nat.le_trans (sum_le hp) hz
  have hr : ∀ p ∈ ps, ∀ r ∈ p.rs, rcW r ≤ 1048576 := fun p hp' r hr => by
    have h1 := hp p hp'
    have h2 := sum_le (m := rcW) hr
    unfold pgW at h1; omega
  have hl : ∀ p ∈ ps, ∀ r ∈ p.rs, ∀ l ∈ r.ls, lgW l ≤ 1048576 := fun p hp' r hr' l hl => by
    have h1 := hr p hp' r hr'
    have h2 := sum_le (m := lgW) hl
    unfold rcW at h1; omega
  refine ⟨⟨h, fun p hp' => (ho p hp').row, fun p hp' r hr' => ((ho p hp').rs r hr').row, fun p hp' r hr' l hl' => ?_⟩, ⟨?_, fun p hp' => ?_, fun p hp' r hr' => ?_⟩⟩
  · have h1 := hl p hp' r hr' l hl'
    have h2 := ((ho p hp').rs r hr').ls l hl'
    unfold lgW at h1
    exact ⟨h2.i, ⟨by omega, by omega, h2.w⟩⟩
  · exact Nat.le_trans (len_sum (fun x => by unfold pgW; omega) ps) hz
  · have h1 := hp p hp'
    have h2 := len_sum (m := rcW) (fun x => by unfold rcW; omega) p.rs
    unfold pgW at h1; omega
  · have h1 := hr p hp' r hr'
    have h2 := len_sum (m := lgW) (fun x => by unfold lgW; omega) r.ls
    unfold rcW at h1; omega
theorem lgF_len (p : Pgv) (i : Nat) (ls : List Lgv) : (lgF p i ls).length = ls.length := by unfold lgF; rw [List.length_map, List.length_zipIdx]
theorem rcF_len (lk : Rcp → Bool) (p : Pgv) : ∀ (rs : List Rcp) (k : Nat), ((rs.zipIdx k).flatMap fun x => if lk x.1 then lgF p x.2 x.1.ls else []).length ≤ (rs.map rcW).sum
  | [], _ => by simp
  | r :: rs, k => by
    have ih := rcF_len lk p rs (k + 1)
    have h1 := len_sum (m := lgW) (fun x => by unfold lgW; omega) r.ls
    rw [List.zipIdx_cons, List.flatMap_cons, List.length_append, List.map_cons, List.sum_cons]
    have h2 : (if lk r = true then lgF p k r.ls else []).length ≤ r.ls.length := by
      by_cases h : lk r = true
      · rw [if_pos h, lgF_len]; omega
      · rw [if_neg h]; simp
    unfold rcW at ih ⊢
    dsimp only
    omega
theorem pgF_len (lk : Rcp → Bool) : ∀ ps : List Pgv, (pgF lk ps).length ≤ (ps.map pgW).sum
  | [] => by simp [pgF]
  | p :: ps => by
    have ih := pgF_len lk ps
    have h1 : (rcF lk p p.rs).length ≤ (p.rs.map rcW).sum := rcF_len lk p p.rs 0
    unfold pgF at ih ⊢
    rw [List.flatMap_cons, List.length_append, List.map_cons, List.sum_cons]
    unfold pgW at ih ⊢
    omega
end Go.Proofs.Ytljbbpcnoajfeaa
