/- tree.Pairs. -/
import Derived.Test.YtljbbpcnoajfeaaPrs6
set_option linter.unusedSimpArgs false
set_option linter.unusedVariables false
namespace Go.Proofs.Ytljbbpcnoajfeaa
open Go.RowKit
attribute [local go_sem] Oper.semAt_some
theorem yT.at {w0 : World} {x : Rt} {a va : Option Addr} {n c vn vc : Nat} {W : World} (h : yT w0 x #[.slice a n c, .slice va vn vc] W) : OwnOf b8 1 5 W 0 (.slice a n c) x.1 ∧ Bytes w0 (.slice va vn vc) x.2 := by
  obtain ⟨a', n', c', va', vn', vc', he, ho, hv⟩ := h
  have hl := congrArg Array.toList he
  change [_, _] = [_, _] at hl
  simp only [List.cons.injEq, Value.slice.injEq, and_true] at hl
  obtain ⟨⟨rfl, rfl, rfl⟩, rfl, rfl, rfl⟩ := hl
  exact ⟨ho, hv⟩
set_option maxHeartbeats 8000000 in
set_option maxRecDepth 100000 in
theorem tpairs_any (t : Nd) (w : World) (hI : IsNd w t) (hb : bulkN t ≤ 1048576) : Calls Try.prog 7 #[.agg (ndcells t).toArray] w (PairsP t w) := by
  refine (callsIn_wide (n := 8)).1 ?_
  show CallsIn (FW none) 8 _ _ _ _ _
  obtain ⟨K, hK⟩ : ∃ K, K = ndcells t := ⟨_, rfl⟩
  have hKl : K.length = 4 := by rw [hK]; exact ndcells_len t
  obtain ⟨w1, hw1⟩ : ∃ w1, w1 = w.alloc (.cells K.toArray 25) := ⟨_, rfl⟩
  have hbel : Below w.heap.size w w1 := by rw [hw1]; exact (Below.refl _ _).alloc (Nat.le_refl _) _
  have z1 : Blk 25 w1 w.heap.size K := by rw [hw1]; exact Blk.new w _ _
  have r1 := z1.all0
  have cR := tree_right_any t w1 (hI.kept hbel) (by omega)
  obtain ⟨R, hR⟩ : ∃ R, R = rgt 0 t := ⟨_, rfl⟩
  have cI := fun (u : World) (hu : Below w.heap.size w u) (hr : R = true) => inner_any (SizeOf.sizeOf t) t (Nat.le_refl _) 0 u (hI.kept hu) (by rw [← hR]; exact hr)
  have hfl : R = true → ∃ l, rts t = some l ∧ (∀ r ∈ l, r.1.length ≤ 64 ∧ r.2.length ≤ 1024) ∧ l.length ≤ 1048576 ∧ ∀ u, Below w.heap.size w u → ∀ (g1 g2 : Nat) (a : Option Addr) (n c : Nat), Blk 69 u g1 [nv t] → Blk 22 u g2 [.slice a n c] → OwnOf b8 1 5 u 0 (.slice a n c) [] → SeqQ Try.prog 52 #[.pointer (some ⟨g1, 0, none⟩), .pointer (some ⟨g2, 0, none⟩)] l (yT w) (Kt w) u := fun hr => by
    rw [hR] at hr
    obtain ⟨l, h1, h2⟩ := rgt_fine hr
    refine ⟨l, h1, h2, Nat.le_trans (rts_len h1) hb, fun u hu g1 g2 a n c b1 b2 o => ?_⟩
    have hn : n = 0 := o.row.fits.1
    have := allq_any w (SizeOf.sizeOf t) t (Nat.le_refl _) 0 hr l h1 hI [] a n c hn.symm (by omega) g1 g2 u ⟨hu, b1, b2, o⟩
    rw [pre_nil] at this
    exact this
  have cA := fun (u : World) => tall_cl t none 0 0 [] u (OwnOf.nil b8 1 5 u 0)
  unfold PairsP
  rw [← hK] at cR cI ⊢
  rw [← hR] at cR ⊢
  obtain ⟨V, hV⟩ : ∃ V, V = nv t := ⟨_, rfl⟩
  simp only [← hV] at cI hfl cA
  have HWe := Lib.hid hw1
  have CR := Lib.hid cR
  have CI := Lib.hid cI
  have CA := Lib.hid cA
  have HFl := Lib.hid hfl
  have HKl := Lib.hid hKl
  have R1 := Lib.hid r1
  have Z1 := Lib.hid z1
  have Hbel := Lib.hid hbel
  clear hw1 cR cI cA hfl hKl r1 z1 hbel hR hV hK hI hb
  refine callsIn_of_wp_marks Try.func7 rfl trivial ?_
  simp only [Try.ntmps7, List.size_toArray, List.length_cons, List.length_nil, Nat.reduceAdd, Nat.reduceSub, Array.replicate_succ, Array.replicate_zero, List.push_toArray, List.append_toArray, List.nil_append, List.cons_append]
  gi_upto_region 1 with fail
  rw [← HWe.out]
  refine regionFW (k := 3) (by rfl) ?_
  simp only [List.take_succ_cons, List.take_zero, List.drop_succ_cons, List.drop_zero]
  go_wp2_with (first
    | ((with_reducible show wpList _ _ _ (⟨some 9, _, _, _, _, _⟩ :: _) _ _); refine wpList_loadW (o := ⟨some 9, _, _, _, _, _⟩) 25 (.tmp 1) (by rfl) w.heap.size 0 (by rfl) aggNode HKl.out R1.out (by rfl) ?_)
    | (go_at_call 21; (with_reducible refine CR.out.mono ?_); rintro e w2 ⟨rfl, b2⟩))
  refine ⟨rfl, ?_⟩
  cases R with
  | false =>
    have hb2 := Below.then Hbel.out b2
    clear b2
    gi_wp2_with fail
    exact ⟨_, results_tmp2 rfl _ _ _, .slice none 0 0, rfl, [], ⟨OwnOf.nil _ _ _ _ _, fun x hx => by cases hx⟩, rfl, hb2⟩
  | true =>
    obtain ⟨l, hl1, hl2, hl3, hseq⟩ := HFl.out rfl
    obtain ⟨w3, hw3⟩ : ∃ x, x = w2.alloc (.cells #[.slice none 0 0] 26) := ⟨_, rfl⟩
    have b23 : Below w2.heap.size w2 w3 := by rw [hw3]; exact (Below.refl _ _).alloc (Nat.le_refl _) _
    have hbox : Blk 26 w3 w2.heap.size [.slice none 0 0] := by rw [hw3]; exact Blk.new w2 _ _
    have b13 : Below w1.heap.size w1 w3 := Below.then b2 b23
    have b03 : Below w.heap.size w w3 := Below.then Hbel.out b13
    have hFs : w.heap.size ≤ w2.heap.size := (Below.then Hbel.out b2).size
    have r3 := World.rangeAt.below R1.out b13
    have cI3 := CI.out w3 b03 rfl
    have HWf := Lib.hid hw3
    have R3 := Lib.hid r3
    have CI3 := Lib.hid cI3
    have Hbox := Lib.hid hbox
    have B03 := Lib.hid b03
    have Hl1 := Lib.hid hl1
    have Hl2 := Lib.hid hl2
    have Hseq := Lib.hid hseq
    have HFs := Lib.hid hFs
    clear hw3 r3 cI3 hbox b03 b13 b23 b2 hl1 hl2 hseq HFl CI CR R1 Z1 HWe hFs
    gi_upto_region 4 with fail
    rw [← HWf.out]
    refine regionFW (k := 3) (by rfl) ?_
    simp only [List.take_succ_cons, List.take_zero, List.drop_succ_cons, List.drop_zero]
    go_wp2_with (first
      | ((with_reducible show wpList _ _ _ (⟨some 12, _, _, _, _, _⟩ :: _) _ _); refine wpList_loadW (o := ⟨some 12, _, _, _, _, _⟩) 25 (.tmp 1) (by rfl) w.heap.size 0 (by rfl) aggNode HKl.out R3.out (by rfl) ?_)
      | (go_at_call 23; (with_reducible refine CI3.out.mono ?_); rintro e w4 ⟨rfl, b4⟩)
      | (go_at_call 22; (with_reducible refine (CA.out w4).mono ?_); rintro e w5 ⟨v5, rfl, h5, b5⟩))
    refine ⟨rfl, ?_⟩
    obtain ⟨g1, g2, aa, an, ac, rfl, hn5, hp5, ho5⟩ := h5
    have b35 : Below w3.heap.size w3 w5 := Below.then b4 b5
    have b05 : Below w.heap.size w w5 := Below.then B03.out b35
    have hI5 : PrI w w2.heap.size l 0 w5 := ⟨b05, .slice none 0 0, [], Hbox.out.kept b35, ⟨OwnOf.nil _ _ _ _ _, fun x hx => by cases hx⟩, rfl⟩
    have hsq : Hid (∀ u, Below w5.heap.size w5 u → SeqQ Try.prog 52 #[.pointer (some ⟨g1, 0, none⟩), .pointer (some ⟨g2, 0, none⟩)] l (yT w) (Kt w) u) := Lib.hid (fun u hu => Hseq.out u (Below.then b05 hu) g1 g2 aa an ac (hn5.kept hu) (hp5.kept hu) (OwnOf.kept ho5 hu))
    have hw5 := b05.size
    have HI5 := Lib.hid hI5
    have Hw5 := Lib.hid hw5
    clear hI5 hw5 b05 b35 b4 b5 hn5 hp5 ho5 Hseq CA CI3 R3 Hbox
    gi_wp2_with fail
    refine range_law (κ := Rt) (L := l) (Y := yT w) (Kp := Kt w) (gf := 52) (lb := #[.pointer (some ⟨g1, 0, none⟩), .pointer (some ⟨g2, 0, none⟩)]) rfl enters_all1 hsq.out Kt.tr (fun u l o o' h1 h2 h3 => Kt.put Hw5.out u l o o' h1 h2 h3) (fun x args u h => yT.size x args u h) (fun x args => yT.stab x args _)
      (fun k u => PrI w w2.heap.size l k u) (fun _ => False)
      (fun k => PrI.stab Hw5.out) (fun W W' row h _ _ => h) HI5.out ?rd ?dn ?st
    case rd =>
      rintro l2 k2 x args u hl2 hx hI9 hy9
      obtain ⟨a9, n9, c9, va9, vn9, vc9, rfl, _, _⟩ := id hy9
      clear hI9 hy9
      show Code.wpIn (FW (some l2)) 8 _ _ _ _ _
      go_simp
      gi_wp2_with fail
      refine ⟨trivial, fun W6 hI6 hy6 => ?_⟩
      obtain ⟨ho6, hv6⟩ := hy6.at
      obtain ⟨hr1, hr2⟩ := Hl2.out x (List.mem_of_getElem? hx)
      have hn9 : n9 = x.1.length := ho6.row.fits.1
      have hn10 : vn9 = x.2.length := hv6.fits.1
      have cj := join_any a9 c9 x.1 W6 (by rw [← hn9]; exact ho6.row) (by omega)
      rw [← hn9] at cj
      have co := fun (u : World) (hu : Below w.heap.size w u) => pown_any va9 vn9 vc9 x.2 (by omega) u (hv6.below hu)
      obtain ⟨jn, hjn⟩ : ∃ n, n = (joinR x.1).length := ⟨_, rfl⟩
      obtain ⟨KK, hKK⟩ : ∃ K, K = joinR x.1 := ⟨_, rfl⟩
      obtain ⟨JE, hJE⟩ : ∃ K, K = joinE x.1 := ⟨_, rfl⟩
      rw [← hKK] at hjn cj
      rw [← hJE] at cj
      have Cj := Lib.hid cj
      have Co := Lib.hid co
      have Hjn := Lib.hid hjn.symm
      have HKK := Lib.hid hKK
      have H10 := Lib.hid hn10.symm
      have HI6 := Lib.hid hI6
      have Hx := Lib.hid hx
      have Hk2 : Hid (k2 < l.length) := Lib.hid (List.getElem?_eq_some_iff.1 hx).1
      clear cj co hjn hKK hJE hn9 hn10 hr1 hr2 ho6 hv6 hy6 hI6 hx
      show Code.wpIn (FW (some l2)) 8 _ _ _ _ _
      gi_upto_region 7 with fail
      refine regionFW (k := 7) (by rfl) ?_
      simp only [List.take_succ_cons, List.take_zero, List.drop_succ_cons, List.drop_zero]
      go_wp2_with (go_at_call 24; (with_reducible refine Cj.out.mono ?_); rintro e W7 ⟨v7, rfl, o7, b7⟩; obtain ⟨a7, c7, rfl, _⟩ := o7.form' jn Hjn.out)
      refine ⟨rfl, ?_⟩
      have hI7 := HI6.out.kept b7
      have hb7 := hI7.b
      obtain ⟨v, xs, h1, h2, h3⟩ := hI7.out
      obtain ⟨va, vc, rfl, _⟩ := h2.own.form
      have hxl : xs.length = k2 := by
        have := congrArg List.length h3
        unfold prsL at this
        simp only [List.length_map, List.length_take] at this
        have := Hk2.out
        omega
      obtain ⟨xn, hxn⟩ : ∃ n, n = xs.length := ⟨_, rfl⟩
      rw [← hxn] at h1
      have hv0 : Value.slice va xs.length vc = .slice va xn vc := by rw [hxn]
      rw [hv0] at h2
      have hxk : xn ≤ 1048576 := by have := Hk2.out; omega
      have o7' : OwnOf b8 1 5 W7 w.heap.size (.slice a7 jn c7) KK := o7.lower HI6.out.b.size
      have c22 : W7.cell? ⟨w2.heap.size, 0, none⟩ = some (.slice va xn vc) := h1.cell 0
      have k22 := fun u : Ext W7 => u.cell c22
      have H2 := Lib.hid h2
      have H1 := Lib.hid h1
      have H3 := Lib.hid h3
      have Hxn := Lib.hid hxn.symm
      have O7 := Lib.hid o7'
      have Hs6 := Lib.hid HI6.out.b.size
      have Hb7 := Lib.hid hb7
      have B7 := Lib.hid b7
      clear h1 h2 h3 hxn hv0 hxl o7 o7' hI7 hb7 b7 Cj HI6
      gi_upto_region 8 with fail
      refine regionFW_typed W7 6 (by kernel_rfl) (by kernel_rfl) (by rfl) (Below.refl _ _) (fun _ _ h => h) ?_
      simp only [List.take_succ_cons, List.take_zero, List.take_nil]
      iterate 3 (refine wpX_step (by rfl) (fun K hK => ?_); go_simp; first | (refine hK _ ?_; clear hK K) | (apply Exists.intro; refine ⟨fun _ => ?_, hK _ ?_⟩; fail; clear hK K))
      refine wpX_rel 25 (OvT w.heap.size x.2) rfl (of_decide_eq_true rfl) (OvT.mono _ _) (fun u hu => ?_) ?_
      · change forallRel u [] _ _
        simp only [forallRel]
        refine ⟨by rfl, ?_⟩
        go_simp
        refine (Co.out u (Below.then Hb7.out hu)).mono ?_
        rintro e w8 ⟨v8, rfl, o8, b8⟩
        exact ⟨_, rfl, OwnOf.lower o8 (Below.then Hb7.out hu).size, b8⟩
      refine wpX_rel 26 (QaT w.heap.size (.slice a7 jn c7) KK x.2) rfl (of_decide_eq_true rfl) (QaT.mono _ _ _ _) (fun u hu => ?_) ?_
      · change forallRel u [(25, _)] _ _
        intro v25 h25
        obtain ⟨a25, c25, rfl, _⟩ := OwnOf.form' h25 vn9 H10.out
        simp only [forallRel]
        exact ⟨by rfl, good_build (o := ⟨some 26, _, _, _, _, _⟩) 75 [(0, .tmp 23), (1, .tmp 25)] (by rfl) _ (by rfl) _ (built_q a7 a25 jn c7 vn9 c25) ⟨⟨.slice a7 jn c7, KK, .slice a25 vn9 c25, x.2⟩, rfl, rfl, rfl, rfl, h25⟩⟩
      refine wpX_rel 27 (QsT w.heap.size (.slice a7 jn c7) KK x.2) rfl (of_decide_eq_true rfl) (QsT.mono _ _ _ _) (fun u hu => ?_) ?_
      · change forallRel u [(26, _)] _ _
        rintro v26 ⟨p, rfl, e1, e2, e3, o26⟩
        simp only [forallRel]
        refine ⟨by rfl, ?_⟩
        exact good_oneQ (o := ⟨some 27, _, _, _, _, _⟩) (.tmp 26) (by rfl) p (by rfl) ⟨p, u.heap.size, rfl, Blk.new u _ _, e1, e2, e3, OwnOf.kept o26 ((Below.refl _ _).alloc (Nat.le_refl _) _)⟩
      refine wpX_nil ?_
      intro y b v25 _ v26 _ v27 h27
      change wpList _ _ _ [_, _] _ _
      try simp only [Act.put, List.setIfInBounds_toArray, List.set_cons_zero, List.set_cons_succ]
      obtain ⟨p, g, rfl, hblk, e1, e2, e3, o27⟩ := h27
      have hby := Below.then Hb7.out b
      have hpO : OwnQ y w.heap.size p := ⟨by rw [e1, e2]; exact OwnOf.kept O7.out b, by rw [e3]; exact o27⟩
      have h1y := H1.out.kept b
      have H2y : Hid (PrL y w.heap.size (.slice va xn vc) xs) := Lib.hid ⟨H2.out.own.kept b, fun z hz => (H2.out.q z hz).kept b⟩
      have hone : ∀ u ∈ [p].flatMap kvq, u.oneCell' = true := by simpa using kvq_one hpO
      have happ := fun (v' : Value) (y6 : World) (ho : OwnOf kvq 2 75 y6 w.heap.size v' (xs ++ [p])) (hg : y.grownBy y6 (Value.slice va xn vc).ownBlock) => pr_app HFs.out hby h1y H2y.out H3.out x Hx.out p (by unfold qtel; rw [e2, e3, HKK.out]) hpO ho hg w5.heap.size
      have HApp := Lib.hid happ
      have HOne := Lib.hid hone
      have HRow := Lib.hid (q_row hblk)
      have HyS := Lib.hid hby.size
      have HWy := Lib.hid (Below.then B7.out b)
      have h1c : y.cell? ⟨w2.heap.size, 0, none⟩ = some (.slice va xn vc) := h1y.cell 0
      clear k22 c22 happ hone hblk e1 e2 e3 o27 hpO h1y hby
      go_wp2_with (refine wpList_appB (o := ⟨some 28, _, _, _, _, _⟩) (by rfl) (.tmp 22) (.tmp 27) 26 (by rfl) elPairQ HOne.out (by rfl) H2y.out.own (by rfl) HRow.out HyS.out (by simp only [List.length_cons, List.length_nil]; rw [Hxn.out]; omega) (by simp only [List.length_cons, List.length_nil]; rw [Hxn.out]; unfold maxLen; omega) ?_; intro v' y6 o6 g6 _; obtain ⟨va', vc', rfl, _⟩ := o6.form' (xn + 1) (by rw [List.length_append, Hxn.out]; rfl); obtain ⟨q6, q7, q8, q9⟩ := HApp.out _ y6 o6 g6; have c6 := q6.cell 0; have f6 := q6.free 0)
      change NormQ _ _ _ (y6.setCell ⟨w2.heap.size, 0, none⟩ (.slice va' (xn + 1) vc'))
      have Q7 := Lib.hid q7
      have Q8 := Lib.hid ((keeps_of_below w5.heap.size HWy.out).trans q8)
      have Q9 := Lib.hid ((Kt.of Hs6.out HWy.out).tr q9)
      clear q6 q7 q8 q9 o6 g6 c6 f6 h1c
      refine ⟨rfl, ?_⟩
      gi_wp2_with fail
      exact ⟨Q8.out, Q9.out, Q7.out⟩
    case dn =>
      rintro D u hD hI9 hDd
      obtain ⟨v, xs, h1, h2, h3⟩ := hI9.out
      obtain ⟨va, vc, rfl, _⟩ := h2.own.form
      have c9 : u.cell? ⟨w2.heap.size, 0, none⟩ = some (.slice va xs.length vc) := h1.cell 0
      have hnc : NoCellsT u (some D) := fun r e => by cases e; exact ⟨_, hDd, rfl⟩
      have hP9 := (PrI.stab (B := w5.heap.size) (k := l.length) (l := l) (F := w2.heap.size) Hw5.out).put (.deferred none) hI9 hD hDd rfl
      have hg := grownBy_putObj' u D (.deferred none)
      have hL9 : PrL (u.putObj D (.deferred none)) w.heap.size (.slice va xs.length vc) xs := ⟨h2.own.blkKept (fun g cs hb => hb.ncT hg hnc), fun x hx => (h2.q x hx).blk (fun g cs hb => hb.ncT hg hnc)⟩
      have HL9 := Lib.hid hL9
      have HP9 := Lib.hid hP9
      have H3 := Lib.hid h3
      clear hL9 hP9 h1 h2 h3 hI9 hg hnc
      gi_wp2_with fail
      refine ⟨by simp, .inl ⟨_, _, rfl, run_takeDeferred hDd, ?_⟩⟩
      exact ⟨_, results_tmp2 rfl _ _ _, .slice va xs.length vc, rfl, xs, HL9.out, by rw [H3.out, List.take_length, Hl1.out]; rfl, HP9.out.b⟩
    case st => exact fun D u _ h _ => h.elim
end Go.Proofs.Ytljbbpcnoajfeaa
