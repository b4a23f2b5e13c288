/- An update; what applying it answers: plain Lean.  light.Period, none; slices.Clone at numbers. | light.judge. | light.Apply: seats that are not right. -/
import Derived.Test.YtgjgokcpampljaaCliB
import Derived.Test.YtgjgokcpampljaaSeat1
import Derived.Test.YtgjgokcpampljaaSeatA
import Derived.Test.YtgjgokcpampljaaVoteA
import Derived.Test.YtgjgokcpampljaaHdrB
/- (Lt1) An update; what applying it answers: plain Lean.  light.Period, none; slices.Clone at numbers. -/
set_option linter.unusedSimpArgs false
set_option linter.unusedVariables false
namespace Go.Proofs.Ytgjgokcpampljaa
open Go.RowKit
structure Upd where
  hd : Hd
  mask : Nat
  n : List Nat
structure Upd.Ok (u : Upd) : Prop where
  hd : u.hd.Ok
  mask : u.mask < 18446744073709551616
  n : ∀ x ∈ u.n, x < 18446744073709551616
  nl : u.n.length ≤ 17592186044416
/-- a store whose rows are of the reach -/
structure Sto.In (t : Sto) : Prop where
  hd : t.hd.Ok
  s : ∀ x ∈ t.s, x < 18446744073709551616
  n : ∀ x ∈ t.n, x < 18446744073709551616
  sl : t.s.length ≤ 17592186044416
  nl : t.n.length ≤ 17592186044416
/-- an update's cells -/
def updc (h : Hd) (m : Nat) (v : Value) : List Value := hdcs h ++ [u64v m, v]
theorem updc_len {h : Hd} (k : h.Ok) (m : Nat) (v : Value) : (updc h m v).length = 206 := stc_len k _ _
theorem updc_hd {h : Hd} (k : h.Ok) (m : Nat) (v : Value) : ((updc h m v).drop 0).take 204 = hdcs h := stc_hd k _ _
theorem updc_m {h : Hd} (k : h.Ok) (m : Nat) (v : Value) : (updc h m v)[204]? = some (u64v m) := stc_s k _ _
theorem updc_n {h : Hd} (k : h.Ok) (m : Nat) (v : Value) : (updc h m v)[205]? = some v := stc_n k _ _
theorem hdcs_num' {h : Hd} (k : h.Ok) (r : List Value) : (hdcs h ++ r)[32]? = some (u64v h.num) := by
  rw [List.getElem?_append_left (by rw [hdcs_len k]; omega)]
  exact hdcs_num k
theorem hdcs_nex' {h : Hd} (k : h.Ok) (r : List Value) : ((hdcs h ++ r).drop 172).take 32 = by8 h.nex := by
  rw [List.drop_append_of_le_length (by rw [hdcs_len k]; omega), List.take_append_of_le_length (by rw [List.length_drop, hdcs_len k]; omega)]
  exact hdcs_nex k
/-- the seats are not right -/
noncomputable def badL (t : Sto) (u : Upd) : Bool := !rightB t.s || (!decide (t.n.length = 0) && !rightB t.n) || (!decide (u.n.length = 0) && !rightB u.n)
/-- the seats that must have voted -/
def jdg (t : Sto) (m : Nat) : Nat × List Nat :=
  if m ≤ t.hd.num then (24, []) else if t.hd.num / 8 = m / 8 then (0, t.s) else if 1 < m / 8 - t.hd.num / 8 ∨ t.n.length = 0 then (25, []) else (0, t.n)
/-- the next seats of an update are not its header's -/
def badN (u : Upd) : Bool := !decide (u.n.length = 0) && !(sumB (seatB u.n) == u.hd.nex)
noncomputable def ltA (t : Sto) (u : Upd) (V : List Vt) : Nat × Sto :=
  if badL t u = true then (23, zSto) else if (jdg t u.hd.num).1 ≠ 0 then ((jdg t u.hd.num).1, zSto) else
  if quoB u.mask (jdg t u.hd.num).2.length = false then (26, zSto) else if vtd u.mask (fun x => hasV V x (sumB (wH u.hd))) (jdg t u.hd.num).2 = false then (27, zSto) else
  if badN u = true then (28, zSto) else (0, ⟨u.hd, (jdg t u.hd.num).2, if u.n.length = 0 ∧ t.hd.num / 8 = u.hd.num / 8 then t.n else u.n⟩)
theorem rightB_len {l : List Nat} (h : rightB l = true) : 1 ≤ l.length ∧ l.length ≤ 16 := by
  have h1 := (rightB_iff.1 h).1
  unfold okLen at h1
  simp only [Bool.and_eq_true, decide_eq_true_eq] at h1
  omega
/-- what applying answers -/
def StoV (w : World) (e : Ending) (w' : World) (A : Nat × Sto) : Prop := ∃ vs vn, e = .returned (.tuple #[.agg (hdcs A.2.hd ++ [vs, vn]).toArray, .int .i64 (A.1 : Int)]) ∧ RowOf u64c 1 w' vs A.2.s ∧ RowOf u64c 1 w' vn A.2.n ∧ Below w.heap.size w w'
theorem StoV.zero {w u : World} (k : Nat) (hu : Below w.heap.size w u) : StoV w (.returned (.tuple #[.agg zst.toArray, .int .i64 (k : Int)])) u (k, zSto) :=
  ⟨.slice none 0 0, .slice none 0 0, rfl, RowOf.nil u64c 1 u, RowOf.nil u64c 1 u, hu⟩
/-- the same, the rows one's own -/
def StoO (w : World) (e : Ending) (w' : World) (A : Nat × Sto) : Prop := ∃ vs vn, e = .returned (.tuple #[.agg (hdcs A.2.hd ++ [vs, vn]).toArray, .int .i64 (A.1 : Int)]) ∧ OwnOf u64c 1 24 w' 0 vs A.2.s ∧ OwnOf u64c 1 24 w' 0 vn A.2.n ∧ Below w.heap.size w w'
theorem StoO.zero {w u : World} (k : Nat) (hu : Below w.heap.size w u) : StoO w (.returned (.tuple #[.agg zst.toArray, .int .i64 (k : Int)])) u (k, zSto) :=
  ⟨.slice none 0 0, .slice none 0 0, rfl, OwnOf.nil u64c 1 _ u 0, OwnOf.nil u64c 1 _ u 0, hu⟩
theorem StoO.sto {w w' : World} {e : Ending} {A : Nat × Sto} (h : StoO w e w' A) : StoV w e w' A := by
  obtain ⟨vs, vn, h1, h2, h3, h4⟩ := h
  exact ⟨vs, vn, h1, h2.row, h3.row, h4⟩
/-- the same, the rows out of the arguments -/
def StoG (t : Sto) (p : Upd) (vs vn vu : Value) (w : World) (e : Ending) (w' : World) (A : Nat × Sto) : Prop := ∃ xs xn, e = .returned (.tuple #[.agg (hdcs A.2.hd ++ [xs, xn]).toArray, .int .i64 (A.1 : Int)]) ∧
  (∀ W0 : World, RowOf u64c 1 W0 vs t.s → RowOf u64c 1 W0 vn t.n → RowOf u64c 1 W0 vu p.n → RowOf u64c 1 W0 xs A.2.s ∧ RowOf u64c 1 W0 xn A.2.n) ∧ Below w.heap.size w w'
theorem StoG.zero {t : Sto} {p : Upd} {vs vn vu : Value} {w u : World} (k : Nat) (hu : Below w.heap.size w u) : StoG t p vs vn vu w (.returned (.tuple #[.agg zst.toArray, .int .i64 (k : Int)])) u (k, zSto) :=
  ⟨.slice none 0 0, .slice none 0 0, rfl, fun W0 _ _ _ => ⟨RowOf.nil u64c 1 W0, RowOf.nil u64c 1 W0⟩, hu⟩
theorem elU : El Try.prog 29 24 (.int .u64 0) 1 8 u64c := ⟨by kernel_rfl, by kernel_rfl, rfl, by omega, fun _ => rfl, fun x u hu => by simp only [u64c, List.mem_singleton] at hu; subst hu; rfl⟩
theorem none_any (a : Option Addr) (n c : Nat) (r : Bool) (hr : ((n : Int) == 0) = r) (w : World) : Calls Try.prog 73 #[.slice a n c] w fun e w' => e = .returned (.bool r) ∧ w' = w := by
  go_enter Try.func73, Try.ntmps73
  go_wp2
  go_ret
  exact ⟨rfl, rfl⟩
theorem period_any (n : Nat) (hn : n < 18446744073709551616) (w : World) : Calls Try.prog 19 #[.int .u64 (n : Int)] w fun e w' => e = .returned (.int .u64 ((n / 8 : Nat) : Int)) ∧ w' = w := by
  have h1 : IntKind.u64.wrap (Int.tdiv (n : Int) 8) = ((n / 8 : Nat) : Int) := by
    rw [show Int.tdiv (n : Int) 8 = ((n / 8 : Nat) : Int) from rfl]
    exact IntWalk.u64_in _ (by omega)
  go_enter Try.func19, Try.ntmps19
  go_wp2
  go_ret
  exact ⟨rfl, rfl⟩
set_option maxHeartbeats 1000000 in
set_option maxRecDepth 100000 in
theorem uclone_any (a : Option Addr) (n c : Nat) (ls : List Nat) (hn : ls.length = n) (w : World) (h : RowOf u64c 1 w (.slice a n c) ls) (hB : n * 8 ≤ 140737488355328) :
    Calls Try.prog 79 #[.slice a n c] w fun e w' => ∃ v, e = .returned v ∧ OwnOf u64c 1 24 w' w.heap.size v ls ∧ Below w.heap.size w w' := by
  have hsm := h.small
  cases a with
  | none =>
    have h0 : ls = [] ∧ n = 0 := by
      obtain ⟨_, _, _, hv, _, _, h3⟩ := h
      rcases h3 with ⟨h1, h2, h3⟩ | ⟨b, off, s, h1, h2, h3⟩
      · exact ⟨List.eq_nil_of_length_eq_zero (by omega), by omega⟩
      · simp only [Value.slice.injEq] at hv
        rw [← hv.1] at h1
        simp at h1
    obtain ⟨rfl, rfl⟩ := h0
    have he : ∀ w : World, (binOp .eql 29 (.slice none 0 c) (.slice none 0 0)).run Try.prog w = .ok (.bool true) w := fun _ => rfl
    go_enter Try.func79, Try.ntmps79
    go_wp2
    go_ret
    exact ⟨_, rfl, OwnOf.nil u64c 1 _ _ _, Below.refl _ _⟩
  | some p =>
    have Hn := Lib.hid hn
    have he : ∀ w : World, (binOp .eql 29 (.slice (some p) n c) (.slice none 0 0)).run Try.prog w = .ok (.bool false) w := fun _ => rfl
    go_enter Try.func79, Try.ntmps79
    go_wp2_with (refine wpList_appA (o := ⟨some 7, _, _, _, _, _⟩) (by rfl) (.tmp 5) (.tmp 6) 29 (by rfl) elU (by rfl) (OwnOf.empty u64c 1 24 w w.heap.size (Nat.le_refl _)) (by rfl) (h.alloc _) (by simp) (by simp [Hn.out] <;> omega) (by simp only [List.length_nil, Hn.out] <;> omega) ?_; intro v2 w2 hA2 hg2 hl2)
    go_ret
    refine ⟨_, rfl, hA2, ?_⟩
    exact ((Below.refl _ _).alloc (Nat.le_refl _) (.cells #[] 24)).grown hg2 (by simp) (fun j hj => OwnOf.lt (OwnOf.empty u64c 1 24 w w.heap.size (Nat.le_refl _)) j hj)
end Go.Proofs.Ytgjgokcpampljaa
/- (Lt2) light.judge. -/
namespace Go.Proofs.Ytgjgokcpampljaa
open Go.RowKit
theorem u64_quo (n : Nat) (hn : n < 18446744073709551616) : IntKind.u64.wrap (Int.tdiv (n : Int) 8) = ((n / 8 : Nat) : Int) := by
  rw [show Int.tdiv (n : Int) 8 = ((n / 8 : Nat) : Int) from rfl]
  exact IntWalk.u64_in _ (by omega)
set_option maxHeartbeats 1000000 in
set_option maxRecDepth 100000 in
theorem judge_any (t : Sto) (k : t.In) (m : Nat) (hm : m < 18446744073709551616) (vs vn : Value) (w : World) (h1 : RowOf u64c 1 w vs t.s) (h2 : RowOf u64c 1 w vn t.n) :
    Calls Try.prog 74 #[.agg (hdcs t.hd ++ [vs, vn]).toArray, .int .u64 (m : Int)] w fun e w' => ∃ v, e = .returned (.tuple #[v, .int .i64 ((jdg t m).1 : Int)]) ∧ RowOf u64c 1 w' v (jdg t m).2 ∧ Below w.heap.size w w' := by
  have f1 := hdcs_num' k.hd [vs, vn]
  obtain ⟨sa, sc, rfl, _⟩ := h1.form
  obtain ⟨na, nc, rfl, _⟩ := h2.form
  obtain ⟨nn, hnn⟩ : ∃ nn, nn = t.n.length := ⟨_, rfl⟩
  rw [← hnn] at h2 f1 ⊢
  have f2 := stc_s k.hd (Value.slice sa t.s.length sc) (Value.slice na nn nc)
  have f3 := stc_n k.hd (Value.slice sa t.s.length sc) (Value.slice na nn nc)
  generalize hdcs t.hd ++ [Value.slice sa t.s.length sc, Value.slice na nn nc] = C at *
  have hz : Blk 31 (w.alloc (.cells C.toArray 31)) w.heap.size C := Blk.new w _ _
  have hbel : Below w.heap.size w (w.alloc (.cells C.toArray 31)) := (Below.refl _ _).alloc (Nat.le_refl _) _
  have c0 := (hz.cell 32).trans f1
  have c1 := (hz.cell 204).trans f2
  have c2 := (hz.cell 205).trans f3
  have hnum := k.hd.num
  obtain ⟨p, hp⟩ : ∃ p, p = t.hd.num := ⟨_, rfl⟩
  obtain ⟨J, hJ⟩ : ∃ J, J = jdg t m := ⟨_, rfl⟩
  rw [← hJ]
  unfold jdg at hJ
  rw [← hp] at c0 hnum hJ
  unfold u64v at c0
  have q1 := period_any p hnum
  have q2 := period_any m hm
  have Q1 := Lib.hid q1
  have Q2 := Lib.hid q2
  have R1 := Lib.hid (h1.below hbel)
  have R2 := Lib.hid (h2.below hbel)
  rw [← hnn] at hJ
  obtain ⟨P, hP⟩ : ∃ P, P = p / 8 := ⟨_, rfl⟩
  obtain ⟨M, hM⟩ : ∃ M, M = m / 8 := ⟨_, rfl⟩
  rw [← hP] at Q1 hJ
  rw [← hM] at Q2 hJ
  have hP64 : P < 18446744073709551616 := by omega
  have hM64 : M < 18446744073709551616 := by omega
  have hmono : p < m → P ≤ M := by omega
  have Hbel := Lib.hid hbel
  clear q1 q2 h1 h2 hz hbel hnn hP hM hp f1 f2 f3
  by_cases g1 : m ≤ p
  · rw [if_pos g1] at hJ
    subst hJ
    have d1 : decide ((m : Int) ≤ (p : Int)) = true := decide_eq_true (by omega)
    have d1' : decide (m ≤ p) = true := decide_eq_true g1
    go_enter Try.func74, Try.ntmps74
    go_wp2_with (first
      | (go_at_call 19; first
        | ((with_reducible refine (Q1.out _).mono ?_); rintro e w1 ⟨rfl, rfl⟩)
        | ((with_reducible refine (Q2.out _).mono ?_); rintro e w1 ⟨rfl, rfl⟩)))
    go_ret2
    exact ⟨_, rfl, RowOf.nil u64c 1 _, Hbel.out⟩
  · rw [if_neg g1] at hJ
    have d1 : decide ((m : Int) ≤ (p : Int)) = false := decide_eq_false (by omega)
    have d1' : decide (m ≤ p) = false := decide_eq_false g1
    by_cases g2 : P = M
    · subst g2
      rw [if_pos rfl] at hJ
      subst hJ
      clear g1
      go_enter Try.func74, Try.ntmps74
      go_wp2_with (first
        | (go_at_call 19; first
          | ((with_reducible refine (Q1.out _).mono ?_); rintro e w1 ⟨rfl, rfl⟩)
          | ((with_reducible refine (Q2.out _).mono ?_); rintro e w1 ⟨rfl, rfl⟩)))
      go_ret2
      exact ⟨_, rfl, R1.out, Hbel.out⟩
    · rw [if_neg g2] at hJ
      have d2 : ((P : Int) == (M : Int)) = false := by rw [beq_eq_false_iff_ne]; omega
      have d2' : (P == M) = false := by rw [beq_eq_false_iff_ne]; exact g2
      have hsub : IntKind.u64.wrap ((M : Int) - (P : Int)) = ((M - P : Nat) : Int) := by
        rw [show (M : Int) - (P : Int) = ((M - P : Nat) : Int) by have := hmono (by omega); omega]
        exact IntWalk.u64_in _ (by omega)
      by_cases g3 : 1 < M - P
      · rw [if_pos (.inl g3)] at hJ
        subst hJ
        have d3 : decide ((1 : Int) < ((M - P : Nat) : Int)) = true := decide_eq_true (by omega)
        have d3' : decide (1 < M - P) = true := decide_eq_true g3
        clear g1 g2 g3 hmono
        generalize M - P = D at *
        go_enter Try.func74, Try.ntmps74
        go_wp2_with (first
          | (go_at_call 19; first
            | ((with_reducible refine (Q1.out _).mono ?_); rintro e w1 ⟨rfl, rfl⟩)
            | ((with_reducible refine (Q2.out _).mono ?_); rintro e w1 ⟨rfl, rfl⟩)))
        go_ret2
        exact ⟨_, rfl, RowOf.nil u64c 1 _, Hbel.out⟩
      · have d3 : decide ((1 : Int) < ((M - P : Nat) : Int)) = false := decide_eq_false (by omega)
        have d3' : decide (1 < M - P) = false := decide_eq_false g3
        by_cases g4 : nn = 0
        · rw [if_pos (.inr g4)] at hJ
          subst hJ
          have hN := fun u => none_any na nn nc true (by rw [g4]; rfl) u
          have HN := Lib.hid hN
          clear g1 g2 g3 hmono g4 hN
          generalize M - P = D at *
          go_enter Try.func74, Try.ntmps74
          go_wp2_with (first
            | (go_at_call 19; first
              | ((with_reducible refine (Q1.out _).mono ?_); rintro e w1 ⟨rfl, rfl⟩)
              | ((with_reducible refine (Q2.out _).mono ?_); rintro e w1 ⟨rfl, rfl⟩))
            | (go_at_call 73; (with_reducible refine (HN.out _).mono ?_); rintro e w1 ⟨rfl, rfl⟩))
          go_ret2
          exact ⟨_, rfl, RowOf.nil u64c 1 _, Hbel.out⟩
        · rw [if_neg (fun h => h.elim g3 g4)] at hJ
          subst hJ
          have hN := fun u => none_any na nn nc false (by rw [beq_eq_false_iff_ne]; omega) u
          have HN := Lib.hid hN
          clear g1 g2 g3 hmono g4 hN
          generalize M - P = D at *
          go_enter Try.func74, Try.ntmps74
          go_wp2_with (first
            | (go_at_call 19; first
              | ((with_reducible refine (Q1.out _).mono ?_); rintro e w1 ⟨rfl, rfl⟩)
              | ((with_reducible refine (Q2.out _).mono ?_); rintro e w1 ⟨rfl, rfl⟩))
            | (go_at_call 73; (with_reducible refine (HN.out _).mono ?_); rintro e w1 ⟨rfl, rfl⟩))
          go_ret2
          exact ⟨_, rfl, R2.out, Hbel.out⟩
end Go.Proofs.Ytgjgokcpampljaa
/- (Lt3) light.Apply: seats that are not right. -/
namespace Go.Proofs.Ytgjgokcpampljaa
open Go.RowKit
/-- what lies there: the store, the update, the answer -/
structure LtW (w3 : World) (g : Nat) (C D R : List Value) (u : World) : Prop where
  hb : Below w3.heap.size w3 u
  z1 : Blk 31 u g C
  z2 : Blk 33 u (g + 1) D
  z3 : Blk 31 u (g + 2) R
theorem LtW.kept {w3 : World} {g : Nat} {C D R : List Value} {u u' : World} (h : LtW w3 g C D R u) (hb : Below u.heap.size u u') : LtW w3 g C D R u' :=
  ⟨Below.then h.hb hb, h.z1.kept hb, h.z2.kept hb, h.z3.kept hb⟩
theorem blk_cell {e : TypeId} {u : World} {g : Nat} {C : List Value} (h : Blk e u g C) {i : Nat} {v : Value} (hv : Hid (C[i]? = some v)) : u.cell? ⟨g, i, none⟩ = some v := (h.cell i).trans hv.out
theorem aggUp : Agg Try.prog 33 206 := ⟨_, Try.underlying33, rfl, by kernel_rfl⟩
theorem ltW_new (w : World) (C D : List Value) : ∃ w3, w3 = ((w.alloc (.cells C.toArray 31)).alloc (.cells D.toArray 33)).alloc (.cells Try.zeroCells31 31) ∧ LtW w3 w.heap.size C D zst w3 ∧ Below w.heap.size w w3 := by
  refine ⟨_, rfl, ⟨Below.refl _ _, ((Blk.new w _ _).alloc _).alloc _, ?_, ?_⟩, (((Below.refl _ _).alloc (Nat.le_refl _) _).alloc (by simp) _).alloc (by simp; omega) _⟩
  · have := Blk.new (w.alloc (.cells C.toArray 31)) 33 D
    simp only [World.size_alloc] at this
    exact this.alloc _
  · have := Blk.new ((w.alloc (.cells C.toArray 31)).alloc (.cells D.toArray 33)) 31 zst
    simp only [World.size_alloc] at this
    rw [zcSt]
    exact this
/-- the facts of a walk of light.Apply, or of the reference's -/
theorem right_at {w3 : World} {sa : Option Addr} {sn sc : Nat} {l : List Nat} (hl : l.length = sn) (hs : sn ≤ 17592186044416) (h : RowOf u64c 1 w3 (.slice sa sn sc) l) {r : Bool} (hr : r = rightB l) :
    Hid (∀ u, Below w3.heap.size w3 u → Calls Try.prog 72 #[.slice sa sn sc] u fun e w' => e = .returned (.bool r) ∧ Below u.heap.size u w') := by
  subst hr
  exact Lib.hid fun u hu => right_any sa sn sc l hl hs u (h.below hu)
theorem none_at (a : Option Addr) (n c : Nat) {r : Bool} (hr : r = decide (n = 0)) : Hid (∀ u, Calls Try.prog 73 #[.slice a n c] u fun e w' => e = .returned (.bool r) ∧ w' = u) := by
  subst hr
  exact Lib.hid fun u => none_any a n c _ (by by_cases h : n = 0 <;> simp [h]) u
set_option maxHeartbeats 2000000 in
set_option maxRecDepth 100000 in
theorem apply_bad (t : Sto) (k : t.In) (p : Upd) (ku : p.Ok) (V : List Vt) (va : Option Addr) (vc : Nat) (vs vn vu : Value) (w : World) (h1 : RowOf u64c 1 w vs t.s) (h2 : RowOf u64c 1 w vn t.n) (h3 : RowOf u64c 1 w vu p.n) (hbad : badL t p = true) :
    Calls Try.prog 15 #[.agg (hdcs t.hd ++ [vs, vn]).toArray, .agg (updc p.hd p.mask vu).toArray, .slice va V.length vc] w fun e w' => StoO w e w' (23, zSto) := by
  obtain ⟨sa, sc, rfl, _⟩ := h1.form
  obtain ⟨na, nc, rfl, _⟩ := h2.form
  obtain ⟨ua, uc, rfl, _⟩ := h3.form
  obtain ⟨sn, hsn⟩ : ∃ x, t.s.length = x := ⟨_, rfl⟩
  obtain ⟨nn, hnn⟩ : ∃ x, t.n.length = x := ⟨_, rfl⟩
  obtain ⟨un, hun⟩ : ∃ x, p.n.length = x := ⟨_, rfl⟩
  have k1 := k.sl
  have k2 := k.nl
  have k3 := ku.nl
  unfold badL at hbad
  rw [hsn] at h1 k1 ⊢
  rw [hnn] at h2 k2 hbad ⊢
  rw [hun] at h3 k3 hbad ⊢
  have e1 := Lib.hid (stc_s k.hd (Value.slice sa sn sc) (Value.slice na nn nc))
  have e2 := Lib.hid (stc_n k.hd (Value.slice sa sn sc) (Value.slice na nn nc))
  have e3 := Lib.hid (updc_n ku.hd p.mask (Value.slice ua un uc))
  generalize hdcs t.hd ++ [Value.slice sa sn sc, Value.slice na nn nc] = C at *
  generalize updc p.hd p.mask (Value.slice ua un uc) = D at *
  obtain ⟨w3, hw3, F, hbel⟩ := ltW_new w C D
  obtain ⟨Rs, hRs⟩ : ∃ r, r = rightB t.s := ⟨_, rfl⟩
  obtain ⟨Rn, hRn⟩ : ∃ r, r = rightB t.n := ⟨_, rfl⟩
  obtain ⟨Ru, hRu⟩ : ∃ r, r = rightB p.n := ⟨_, rfl⟩
  obtain ⟨N0, hN0⟩ : ∃ r, r = decide (nn = 0) := ⟨_, rfl⟩
  obtain ⟨U0, hU0⟩ : ∃ r, r = decide (un = 0) := ⟨_, rfl⟩
  rw [← hRs, ← hRn, ← hRu, ← hN0, ← hU0] at hbad
  have A1 := right_at hsn k1 (h1.below hbel) hRs
  have A2 := right_at hnn k2 (h2.below hbel) hRn
  have A3 := right_at hun k3 (h3.below hbel) hRu
  have B2 := none_at na nn nc hN0
  have B3 := none_at ua un uc hU0
  have cs := blk_cell F.z1 e1
  have cn := blk_cell F.z1 e2
  have dn := blk_cell F.z2 e3
  have Hw3 := Lib.hid hw3
  have Hbel := Lib.hid hbel
  clear hw3 hbel hsn hnn hun h1 h2 h3 hRs hRn hRu hN0 hU0
  have key : (Rs = false) ∨ (Rs = true ∧ N0 = false ∧ Rn = false) ∨ (Rs = true ∧ N0 = true ∧ U0 = false ∧ Ru = false) ∨ (Rs = true ∧ N0 = false ∧ Rn = true ∧ U0 = false ∧ Ru = false) := by
    revert hbad; cases Rs <;> cases N0 <;> cases Rn <;> cases U0 <;> cases Ru <;> simp
  clear hbad
  rcases key with rfl | ⟨rfl, rfl, rfl⟩ | ⟨rfl, rfl, rfl, rfl⟩ | ⟨rfl, rfl, rfl, rfl, rfl⟩
  all_goals
    go_enter Try.func15, Try.ntmps15
    go_wp2_with (first
      | (rw [← Hw3.out])
      | (go_at_call 73; first
        | ((with_reducible refine (B2.out _).mono ?_); rintro e w4 ⟨rfl, rfl⟩)
        | ((with_reducible refine (B3.out _).mono ?_); rintro e w4 ⟨rfl, rfl⟩))
      | (go_at_call 72; first
        | ((with_reducible refine (A1.out _ F.hb).mono ?_); rintro e w4 ⟨rfl, b4⟩; have F := F.kept b4; have cs := blk_cell F.z1 e1; have cn := blk_cell F.z1 e2; have dn := blk_cell F.z2 e3)
        | ((with_reducible refine (A2.out _ F.hb).mono ?_); rintro e w4 ⟨rfl, b4⟩; have F := F.kept b4; have cs := blk_cell F.z1 e1; have cn := blk_cell F.z1 e2; have dn := blk_cell F.z2 e3)
        | ((with_reducible refine (A3.out _ F.hb).mono ?_); rintro e w4 ⟨rfl, b4⟩; have F := F.kept b4; have cs := blk_cell F.z1 e1; have cn := blk_cell F.z1 e2; have dn := blk_cell F.z2 e3))
      | ((with_reducible show wpList _ _ _ (⟨none, Op.store _ _ (Operand.tmp 39), _, _, _, _⟩ :: _) _ _); refine wpList_storeA (o := ⟨none, _, _, _, _, _⟩) (by rfl) 31 (.tmp 6) (.tmp 39) (by rfl) (w.heap.size + 2) zst (by rfl) (by first | rfl | exact congrArg Value.agg zcSt) aggSt F.z3 zst_len zst_len zst_one (Below.then Hbel.out F.hb) (by omega) ?_; intro w5 hh5 hbel5 _))
    exact bodyPost_ret (v := .tuple #[.agg zst.toArray, .int .i64 23]) (results_blk_tmp rfl _ _ (w.heap.size + 2) aggSt hh5 zst_len rfl rfl) rfl (StoO.zero 23 hbel5)
end Go.Proofs.Ytgjgokcpampljaa
