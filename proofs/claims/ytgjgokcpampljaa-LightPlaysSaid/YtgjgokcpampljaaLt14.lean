/- light.Apply and the reference's LtApply answer ltA; light.Begin. -/
import Derived.Test.YtgjgokcpampljaaLt6
import Derived.Test.YtgjgokcpampljaaLt7
import Derived.Test.YtgjgokcpampljaaLt8
import Derived.Test.YtgjgokcpampljaaLt10
import Derived.Test.YtgjgokcpampljaaLt11
import Derived.Test.YtgjgokcpampljaaLt12
import Derived.Test.YtgjgokcpampljaaLt13
set_option linter.unusedSimpArgs false
set_option linter.unusedVariables false
namespace Go.Proofs.Ytgjgokcpampljaa
open Go.RowKit
theorem ltA_bad {t : Sto} {p : Upd} {V : List Vt} (h : badL t p = true) : ltA t p V = (23, zSto) := by unfold ltA; rw [if_pos h]
theorem ltA_go {t : Sto} {p : Upd} {V : List Vt} {j : Nat} {l : List Nat} (hok : badL t p = false) (hJ : jdg t p.hd.num = (j, l)) : ltA t p V = if j ≠ 0 then (j, zSto) else
    if quoB p.mask l.length = false then (26, zSto) else if vtd p.mask (fun x => hasV V x (sumB (wH p.hd))) l = false then (27, zSto) else
    if badN p = true then (28, zSto) else (0, ⟨p.hd, l, if p.n.length = 0 ∧ t.hd.num / 8 = p.hd.num / 8 then t.n else p.n⟩) := by
  unfold ltA; rw [if_neg (by rw [hok]; simp), hJ]
theorem ltA_no {t : Sto} {p : Upd} {V : List Vt} {j : Nat} {l : List Nat} (hok : badL t p = false) (hJ : jdg t p.hd.num = (j, l)) (hj : j ≠ 0) : ltA t p V = (j, zSto) := by rw [ltA_go hok hJ, if_pos hj]
theorem ltA_yes {t : Sto} {p : Upd} {V : List Vt} {l : List Nat} (hok : badL t p = false) (hJ : jdg t p.hd.num = (0, l)) : ltA t p V =
    if quoB p.mask l.length = false then (26, zSto) else if vtd p.mask (fun x => hasV V x (sumB (wH p.hd))) l = false then (27, zSto) else
    if badN p = true then (28, zSto) else (0, ⟨p.hd, l, if p.n.length = 0 ∧ t.hd.num / 8 = p.hd.num / 8 then t.n else p.n⟩) := by
  rw [ltA_go hok hJ, if_neg (c := (0 : Nat) ≠ 0) (fun h => h rfl)]
theorem jdg_old {t : Sto} {m : Nat} (h : m ≤ t.hd.num) : jdg t m = (24, []) := by unfold jdg; rw [if_pos h]
theorem jdg_same {t : Sto} {m : Nat} (h : ¬ m ≤ t.hd.num) (h2 : t.hd.num / 8 = m / 8) : jdg t m = (0, t.s) := by unfold jdg; rw [if_neg h, if_pos h2]
theorem jdg_far {t : Sto} {m : Nat} (h : ¬ m ≤ t.hd.num) (h2 : ¬ t.hd.num / 8 = m / 8) (h3 : 1 < m / 8 - t.hd.num / 8 ∨ t.n.length = 0) : jdg t m = (25, []) := by unfold jdg; rw [if_neg h, if_neg h2, if_pos h3]
theorem jdg_next {t : Sto} {m : Nat} (h : ¬ m ≤ t.hd.num) (h2 : ¬ t.hd.num / 8 = m / 8) (h3 : ¬ (1 < m / 8 - t.hd.num / 8 ∨ t.n.length = 0)) : jdg t m = (0, t.n) := by unfold jdg; rw [if_neg h, if_neg h2, if_neg h3]
theorem badN_zero {p : Upd} (h : p.n.length = 0) : badN p = false := by unfold badN; rw [decide_eq_true h]; rfl
theorem ff {b : Bool} (h : ¬ b = true) : b = false := by cases b with | true => exact absurd rfl h | false => rfl
theorem tt {b : Bool} (h : ¬ b = false) : b = true := by cases b with | false => exact absurd rfl h | true => rfl
theorem ltA_ok {t : Sto} {p : Upd} {V : List Vt} (ku : p.Ok) : (ltA t p V).2.hd.Ok := by
  unfold ltA
  repeat' split
  all_goals first | exact zH_ok | exact ku.hd
theorem apply_own (t : Sto) (k : t.In) (p : Upd) (ku : p.Ok) (V : List Vt) (hvs : V.length ≤ 140737488355328) (hV : ∀ v ∈ V, v.Ok) (va : Option Addr) (vc : Nat) (vs vn vu : Value) (w : World) (h1 : RowOf u64c 1 w vs t.s) (h2 : RowOf u64c 1 w vn t.n) (h3 : RowOf u64c 1 w vu p.n) (hv : RowOf vtc 33 w (.slice va V.length vc) V) :
    Calls Try.prog 15 #[.agg (hdcs t.hd ++ [vs, vn]).toArray, .agg (updc p.hd p.mask vu).toArray, .slice va V.length vc] w fun e w' => StoO w e w' (ltA t p V) := by
  by_cases hb : badL t p = true
  · rw [ltA_bad hb]; exact apply_bad t k p ku V va vc vs vn vu w h1 h2 h3 hb
  · have hok := ff hb
    obtain ⟨⟨j, l⟩, hJ⟩ : ∃ x, jdg t p.hd.num = x := ⟨_, rfl⟩
    by_cases hj : j = 0
    · subst hj
      rw [ltA_yes hok hJ]
      by_cases hq : quoB p.mask l.length = false
      · rw [if_pos hq]; exact apply_quo t k p ku V hvs hV va vc vs vn vu w h1 h2 h3 hv hok l hJ hq
      · rw [if_neg hq]
        by_cases hvt : vtd p.mask (fun x => hasV V x (sumB (wH p.hd))) l = false
        · rw [if_pos hvt]; exact apply_vote t k p ku V hvs hV va vc vs vn vu w h1 h2 h3 hv hok l hJ (tt hq) hvt
        · rw [if_neg hvt]
          by_cases hn : badN p = true
          · rw [if_pos hn]; exact apply_next t k p ku V hvs hV va vc vs vn vu w h1 h2 h3 hv hok l hJ (tt hq) (tt hvt) hn
          · rw [if_neg hn]
            by_cases hu : p.n.length = 0
            · by_cases hper : t.hd.num / 8 = p.hd.num / 8
              · rw [if_pos (c := p.n.length = 0 ∧ t.hd.num / 8 = p.hd.num / 8) ⟨hu, hper⟩]; exact apply_okP t k p ku V hvs hV va vc vs vn vu w h1 h2 h3 hv hok l hJ (tt hq) (tt hvt) (ff hn) hu hper
              · rw [if_neg (c := p.n.length = 0 ∧ _) (fun h => hper h.2)]; exact apply_ok0 t k p ku V hvs hV va vc vs vn vu w h1 h2 h3 hv hok l hJ (tt hq) (tt hvt) (ff hn) hu hper
            · rw [if_neg (c := p.n.length = 0 ∧ _) (fun h => hu h.1)]; exact apply_okN t k p ku V hvs hV va vc vs vn vu w h1 h2 h3 hv hok l hJ (tt hq) (tt hvt) (ff hn) hu
    · rw [ltA_no hok hJ hj]
      have h24 := jdg_cases (t := t) (m := p.hd.num) (by rw [hJ]; exact hj)
      have hj1 : (jdg t p.hd.num).1 = j := by rw [hJ]
      rw [hj1] at h24
      rcases h24 with rfl | rfl
      · exact apply_judge24 t k p ku V hvs hV va vc vs vn vu w h1 h2 h3 hv hok hj1
      · exact apply_judge25 t k p ku V hvs hV va vc vs vn vu w h1 h2 h3 hv hok hj1
theorem apply_any (t : Sto) (k : t.In) (p : Upd) (ku : p.Ok) (V : List Vt) (hvs : V.length ≤ 140737488355328) (hV : ∀ v ∈ V, v.Ok) (va : Option Addr) (vc : Nat) (vs vn vu : Value) (w : World) (h1 : RowOf u64c 1 w vs t.s) (h2 : RowOf u64c 1 w vn t.n) (h3 : RowOf u64c 1 w vu p.n) (hv : RowOf vtc 33 w (.slice va V.length vc) V) :
    Calls Try.prog 15 #[.agg (hdcs t.hd ++ [vs, vn]).toArray, .agg (updc p.hd p.mask vu).toArray, .slice va V.length vc] w fun e w' => StoV w e w' (ltA t p V) :=
  (apply_own t k p ku V hvs hV va vc vs vn vu w h1 h2 h3 hv).mono fun _ _ h => h.sto
theorem ltapply_gen (t : Sto) (k : t.In) (p : Upd) (ku : p.Ok) (V : List Vt) (hvs : V.length ≤ 140737488355328) (va : Option Addr) (vc : Nat) (vs vn vu : Value) (w : World) (h1 : RowOf u64c 1 w vs t.s) (h2 : RowOf u64c 1 w vn t.n) (h3 : RowOf u64c 1 w vu p.n) (hv : RowOf vtc 33 w (.slice va V.length vc) V) :
    Calls Try.prog 16 #[.agg (hdcs t.hd ++ [vs, vn]).toArray, .agg (updc p.hd p.mask vu).toArray, .slice va V.length vc] w fun e w' => StoG t p vs vn vu w e w' (ltA t p V) := by
  by_cases hb : badL t p = true
  · rw [ltA_bad hb]; exact ltapply_bad t k p ku V hvs va vc vs vn vu w h1 h2 h3 hv hb
  · have hok := ff hb
    by_cases g1 : p.hd.num ≤ t.hd.num
    · rw [ltA_no hok (jdg_old g1) (by decide)]
      exact ltapply_old t k p ku V hvs va vc vs vn vu w h1 h2 h3 hv hok g1
    · by_cases g2 : t.hd.num / 8 = p.hd.num / 8
      · rw [ltA_yes hok (jdg_same g1 g2)]
        by_cases hu : p.n.length = 0
        · rw [if_neg (show ¬ badN p = true by rw [badN_zero hu]; simp), if_pos (c := p.n.length = 0 ∧ t.hd.num / 8 = p.hd.num / 8) ⟨hu, g2⟩]
          by_cases hq : quoB p.mask t.s.length = false
          · rw [if_pos hq]; exact ltapply_s0_26 t k p ku V hvs va vc vs vn vu w h1 h2 h3 hv hok (by omega) hu g2 hq
          · rw [if_neg hq]
            by_cases hvt : vtd p.mask (fun x => hasV V x (sumB (wH p.hd))) t.s = false
            · rw [if_pos hvt]; exact ltapply_s0_27 t k p ku V hvs va vc vs vn vu w h1 h2 h3 hv hok (by omega) hu g2 (tt hq) hvt
            · rw [if_neg hvt]; exact ltapply_s0_0 t k p ku V hvs va vc vs vn vu w h1 h2 h3 hv hok (by omega) hu g2 (tt hq) (tt hvt)
        · rw [if_neg (c := p.n.length = 0 ∧ _) (fun h => hu h.1)]
          by_cases hq : quoB p.mask t.s.length = false
          · rw [if_pos hq]; exact ltapply_s1_26 t k p ku V hvs va vc vs vn vu w h1 h2 h3 hv hok (by omega) hu g2 hq
          · rw [if_neg hq]
            by_cases hvt : vtd p.mask (fun x => hasV V x (sumB (wH p.hd))) t.s = false
            · rw [if_pos hvt]; exact ltapply_s1_27 t k p ku V hvs va vc vs vn vu w h1 h2 h3 hv hok (by omega) hu g2 (tt hq) hvt
            · rw [if_neg hvt]
              by_cases hn : badN p = true
              · rw [if_pos hn]; exact ltapply_s1_28 t k p ku V hvs va vc vs vn vu w h1 h2 h3 hv hok (by omega) hu g2 (tt hq) (tt hvt) hn
              · rw [if_neg hn]; exact ltapply_s1_0 t k p ku V hvs va vc vs vn vu w h1 h2 h3 hv hok (by omega) hu g2 (tt hq) (tt hvt) (ff hn)
      · by_cases g3 : 1 < p.hd.num / 8 - t.hd.num / 8
        · rw [ltA_no hok (jdg_far g1 g2 (.inl g3)) (by decide)]
          exact ltapply_far1 t k p ku V hvs va vc vs vn vu w h1 h2 h3 hv hok (by omega) g3
        · have g4 : p.hd.num / 8 - 1 = t.hd.num / 8 ∧ t.hd.num / 8 < p.hd.num / 8 := by omega
          by_cases g5 : t.n.length = 0
          · rw [ltA_no hok (jdg_far g1 g2 (.inr g5)) (by decide)]
            exact ltapply_far2 t k p ku V hvs va vc vs vn vu w h1 h2 h3 hv hok (by omega) g4 g5
          · rw [ltA_yes hok (jdg_next g1 g2 (fun h => h.elim g3 g5)), if_neg (c := p.n.length = 0 ∧ _) (fun h => g2 h.2)]
            by_cases hu : p.n.length = 0
            · rw [if_neg (show ¬ badN p = true by rw [badN_zero hu]; simp)]
              by_cases hq : quoB p.mask t.n.length = false
              · rw [if_pos hq]; exact ltapply_n0_26 t k p ku V hvs va vc vs vn vu w h1 h2 h3 hv hok (by omega) hu g4 g5 hq
              · rw [if_neg hq]
                by_cases hvt : vtd p.mask (fun x => hasV V x (sumB (wH p.hd))) t.n = false
                · rw [if_pos hvt]; exact ltapply_n0_27 t k p ku V hvs va vc vs vn vu w h1 h2 h3 hv hok (by omega) hu g4 g5 (tt hq) hvt
                · rw [if_neg hvt]; exact ltapply_n0_0 t k p ku V hvs va vc vs vn vu w h1 h2 h3 hv hok (by omega) hu g4 g5 (tt hq) (tt hvt)
            · by_cases hq : quoB p.mask t.n.length = false
              · rw [if_pos hq]; exact ltapply_n1_26 t k p ku V hvs va vc vs vn vu w h1 h2 h3 hv hok (by omega) hu g4 g5 hq
              · rw [if_neg hq]
                by_cases hvt : vtd p.mask (fun x => hasV V x (sumB (wH p.hd))) t.n = false
                · rw [if_pos hvt]; exact ltapply_n1_27 t k p ku V hvs va vc vs vn vu w h1 h2 h3 hv hok (by omega) hu g4 g5 (tt hq) hvt
                · rw [if_neg hvt]
                  by_cases hn : badN p = true
                  · rw [if_pos hn]; exact ltapply_n1_28 t k p ku V hvs va vc vs vn vu w h1 h2 h3 hv hok (by omega) hu g4 g5 (tt hq) (tt hvt) hn
                  · rw [if_neg hn]; exact ltapply_n1_0 t k p ku V hvs va vc vs vn vu w h1 h2 h3 hv hok (by omega) hu g4 g5 (tt hq) (tt hvt) (ff hn)
theorem ltapply_any (t : Sto) (k : t.In) (p : Upd) (ku : p.Ok) (V : List Vt) (hvs : V.length ≤ 140737488355328) (va : Option Addr) (vc : Nat) (vs vn vu : Value) (w : World) (h1 : RowOf u64c 1 w vs t.s) (h2 : RowOf u64c 1 w vn t.n) (h3 : RowOf u64c 1 w vu p.n) (hv : RowOf vtc 33 w (.slice va V.length vc) V) :
    Calls Try.prog 16 #[.agg (hdcs t.hd ++ [vs, vn]).toArray, .agg (updc p.hd p.mask vu).toArray, .slice va V.length vc] w fun e w' => StoV w e w' (ltA t p V) :=
  (ltapply_gen t k p ku V hvs va vc vs vn vu w h1 h2 h3 hv).mono fun _ w' ⟨xs, xn, e1, e2, e3⟩ => ⟨xs, xn, e1, (e2 w' (h1.below e3) (h2.below e3) (h3.below e3)).1, (e2 w' (h1.below e3) (h2.below e3) (h3.below e3)).2, e3⟩
/-- what beginning answers -/
noncomputable def beg (h : Hd) (l : List Nat) : Nat × Sto := if rightB l = true then (0, ⟨h, l, []⟩) else (23, zSto)
def StV1 (H : Hd) (s : List Nat) : Ty := fun v w => ∃ sa sn sc, v = .agg (hdcs H ++ [Value.slice sa sn sc, Value.slice none 0 0]).toArray ∧ OwnOf u64c 1 24 w 0 (.slice sa sn sc) s
theorem StV1.mono (H : Hd) (s : List Nat) : Mono (StV1 H s) := fun _ _ _ ⟨sa, sn, sc, h1, h2⟩ hb => ⟨sa, sn, sc, h1, h2.kept hb⟩
set_option maxHeartbeats 2000000 in
set_option maxRecDepth 100000 in
theorem begin_any (H : Hd) (k : H.Ok) (l : List Nat) (sa : Option Addr) (sn sc : Nat) (hl : l.length = sn) (hs : sn ≤ 17592186044416) (w : World) (h : RowOf u64c 1 w (.slice sa sn sc) l) :
    Calls Try.prog 17 #[.agg (hdcs H).toArray, .slice sa sn sc] w fun e w' => StoV w e w' (beg H l) := by
  obtain ⟨w3, hw3⟩ : ∃ w3, w3 = (w.alloc (.cells (hdcs H).toArray 28)).alloc (.cells Try.zeroCells31 31) := ⟨_, rfl⟩
  have z1 : Blk 28 w3 w.heap.size (hdcs H) := by rw [hw3]; exact (Blk.new w _ _).alloc _
  have z2 : Blk 31 w3 (w.heap.size + 1) zst := by
    have := Blk.new (w.alloc (.cells (hdcs H).toArray 28)) 31 zst
    simp only [World.size_alloc] at this
    rw [hw3, zcSt]
    exact this
  have hbel : Below w.heap.size w w3 := by rw [hw3]; exact ((Below.refl _ _).alloc (Nat.le_refl _) _).alloc (by simp) _
  have A := right_at hl hs (h.below hbel) rfl
  have hH := hdcs_len k
  have K := Lib.hid k
  have Hw3 := Lib.hid hw3
  have H1 := Lib.hid (h.below hbel)
  have Hl := Lib.hid hl
  have Hbel := Lib.hid hbel
  unfold beg
  obtain ⟨R, hR⟩ : ∃ R, rightB l = R := ⟨_, rfl⟩
  have HR := Lib.hid hR
  rw [hR] at A ⊢
  clear hw3 h hl k hbel hR
  cases R with
  | false =>
    rw [if_neg (by simp)]
    go_enter Try.func17, Try.ntmps17
    go_wp2_with (first
      | (rw [← Hw3.out])
      | (go_at_call 72; (with_reducible refine (A.out _ (Below.refl _ _)).mono ?_); rintro e w4 ⟨rfl, b4⟩; have z2 := z2.kept b4)
      | ((with_reducible show wpList _ _ _ (⟨none, Op.store _ _ (Operand.tmp 9), _, _, _, _⟩ :: _) _ _); refine wpList_storeA (o := ⟨none, _, _, _, _, _⟩) (by rfl) 31 (.tmp 4) (.tmp 9) (by rfl) (w.heap.size + 1) zst (by rfl) (by first | rfl | exact congrArg Value.agg zcSt) aggSt z2 zst_len zst_len zst_one (Below.then Hbel.out b4) (by omega) ?_; intro w9 hh9 hbel9 _))
    exact bodyPost_ret (v := .tuple #[.agg zst.toArray, .int .i64 23]) (results_blk_tmp rfl _ _ (w.heap.size + 1) aggSt hh9 zst_len rfl rfl) rfl (StoV.zero 23 hbel9)
  | true =>
    rw [if_pos rfl]
    go_enter Try.func17, Try.ntmps17
    go_wp2_with (first
      | (rw [← Hw3.out])
      | (go_at_call 72; (with_reducible refine (A.out _ (Below.refl _ _)).mono ?_); rintro e w4 ⟨rfl, b4⟩; have z1 := z1.kept b4; have z2 := z2.kept b4))
    have RD := Lib.hid (Blk.all0 z1)
    have C1 : Hid (∀ u, Below w4.heap.size w4 u → _) := Lib.hid fun u hu => uclone_any sa sn sc l Hl.out u (H1.out.below (Below.then b4 hu)) (by have := rightB_len HR.out; have := Hl.out; omega)
    refine wp_region_typed w4 4 (by kernel_rfl) (by kernel_rfl) (Below.refl _ _) ?_; simp only [List.take_succ_cons, List.take_zero, List.take_nil]
    (refine wpX_step (by rfl) (fun K hK => ?_); rw [if_pos (by rfl)]; refine ⟨_, fun u => const_loadm _ (.tmp 2) (by rfl) _ _ (by rfl) aggHd hH (rangeAt.ext RD.out u), hK _ ?_⟩; clear hK K; simp only [Act.put, List.setIfInBounds_toArray, List.set_cons_zero, List.set_cons_succ])
    (refine wpX_step (by rfl) (fun K hK => ?_); go_simp; first | (refine hK _ ?_; clear hK K) | (apply Exists.intro; refine ⟨fun _ => ?_, hK _ ?_⟩; fail; clear hK K))
    refine wpX_rel 12 (NumsT l) rfl (of_decide_eq_true rfl) (NumsT.mono _) (fun w2 hw2 => ?_) ?_
    · simp only [relOf, List.filter_nil, forallRel]
      refine ⟨rfl, ?_⟩
      go_simp
      refine (C1.out w2 hw2).mono ?_
      rintro e w3 ⟨v, rfl, o3, b3⟩
      obtain ⟨a3, c3, rfl, _⟩ := o3.form
      exact ⟨_, rfl, ⟨a3, _, c3, rfl, o3.lower (Nat.zero_le _)⟩, b3⟩
    refine wpX_rel 13 (StV1 H l) rfl (of_decide_eq_true rfl) (StV1.mono _ _) (fun w2 hw2 => ?_) ?_
    · change forallRel w2 [(12, _)] _ _
      rintro v36 ⟨a3, n3, c3, rfl, r3⟩
      simp only [forallRel]
      refine ⟨rfl, ?_⟩
      simp only [Act.put, List.setIfInBounds_toArray, List.set_cons_zero, List.set_cons_succ]
      exact good_build (o := ⟨some 13, _, _, _, _, _⟩) 31 [(0, .tmp 10), (1, .tmp 12)] (by rfl) _ (by rfl) _ (built_st1 K.out a3 n3 c3) ⟨a3, n3, c3, rfl, r3⟩
    refine wpX_nil ?_
    intro u4 hb4 v36 h36 v42 h42
    change wpList _ _ _ [_, _] _ _
    obtain ⟨qa, qn, qc, rfl, r3⟩ := h42
    have z2 := z2.kept hb4
    have hlT := stc_len K.out (.slice qa qn qc) (.slice none 0 0)
    have hb5 := Below.then Hbel.out (Below.then b4 hb4)
    clear C1 RD h36
    simp only [Act.put, List.setIfInBounds_toArray, List.set_cons_zero, List.set_cons_succ]
    go_wp2_with (first
      | ((with_reducible show wpList _ _ _ (⟨none, Op.store _ _ (Operand.tmp 13), _, _, _, _⟩ :: _) _ _); refine wpList_storeA (o := ⟨none, _, _, _, _, _⟩) (by rfl) 31 (.tmp 4) (.tmp 13) (by rfl) (w.heap.size + 1) (hdcs H ++ [.slice qa qn qc, .slice none 0 0]) (by rfl) (by rfl) aggSt z2 hlT zst_len (stc_one _ _ _ _ _ _ _) hb5 (by omega) ?_; intro w9 hh9 hbel9 gg9; have f3 := (r3.off gg9 z2 (by decide)).row))
    exact bodyPost_ret (v := .tuple #[.agg (hdcs H ++ [Value.slice qa qn qc, Value.slice none 0 0]).toArray, .int .i64 0]) (results_blk_tmp rfl _ _ (w.heap.size + 1) aggSt hh9 hlT rfl rfl) rfl ⟨_, _, rfl, f3, RowOf.nil u64c 1 _, hbel9⟩
end Go.Proofs.Ytgjgokcpampljaa
