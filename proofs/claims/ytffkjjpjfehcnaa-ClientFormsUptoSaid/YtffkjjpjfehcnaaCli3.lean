/- client.Write. -/
import Derived.Test.YtffkjjpjfehcnaaCli1
import Derived.Test.YtffkjjpjfehcnaaCli2
import Derived.Test.YtffkjjpjfehcnaaHdr4
set_option linter.unusedSimpArgs false
set_option linter.unusedVariables false
namespace Go.Proofs.Ytffkjjpjfehcnaa
open Go.RowKit
/-- an item that means p -/
def PItm (p : Pit) (m : Nat) : Ty := fun v w => ∃ l a n c a' n' c' t ks, v = .agg #[.bool l, .slice a n c, .slice a' n' c'] ∧ IsItm w (.mk l (.slice a n c) t (.slice a' n' c') ks) ∧ erI (.mk l (.slice a n c) t (.slice a' n' c') ks) = p ∧ bulkI (.mk l (.slice a n c) t (.slice a' n' c') ks) ≤ m
theorem PItm.mono (p : Pit) (m : Nat) : Mono (PItm p m) := fun _ _ _ ⟨l, a, n, c, a', n', c', t, ks, h1, h2, h3, h4⟩ hb => ⟨l, a, n, c, a', n', c', t, ks, h1, h2.kept hb, h3, h4⟩
/-- a row of items that mean ps -/
def PRow (ps : List Pit) (m : Nat) : Ty := fun v w => ∃ a n c its, v = .slice a n c ∧ RowOf icells 3 w v its ∧ (∀ i ∈ its, IsItm w i) ∧ its.map erI = ps ∧ bulkL its ≤ m
theorem PRow.mono (ps : List Pit) (m : Nat) : Mono (PRow ps m) := fun _ _ _ ⟨a, n, c, its, h1, h2, h3, h4, h5⟩ hb => ⟨a, n, c, its, h1, RowOf.kept h2 hb, fun i hi => (h3 i hi).kept hb, h4, h5⟩
theorem aggSt : Agg Try.prog 38 206 := ⟨_, Try.underlying38, rfl, by kernel_rfl⟩
theorem stc_len {t : Hd} (k : t.Ok) (vs vn : Value) : (hdcs t ++ [vs, vn]).length = 206 := by rw [List.length_append, hdcs_len k]; rfl
theorem stc_hd {t : Hd} (k : t.Ok) (vs vn : Value) : ((hdcs t ++ [vs, vn]).drop 0).take 204 = hdcs t := by rw [List.drop_zero, List.take_left' (hdcs_len k)]
theorem stc_s {t : Hd} (k : t.Ok) (vs vn : Value) : (hdcs t ++ [vs, vn])[204]? = some vs := by rw [List.getElem?_append_right (by rw [hdcs_len k]; omega), hdcs_len k]; rfl
theorem stc_n {t : Hd} (k : t.Ok) (vs vn : Value) : (hdcs t ++ [vs, vn])[205]? = some vn := by rw [List.getElem?_append_right (by rw [hdcs_len k]; omega), hdcs_len k]; rfl
theorem bulk_nP {kv : Value} {ps : List (Value × List UInt8)} {l : List Nat} (h : ps.map (·.2) = l.map numB) (hl : ∀ x ∈ l, x < 18446744073709551616) (hs : l.length ≤ 1048576) : bulkI (lst kv (txts ps)) ≤ 9437185 := by
  have := bulk_nums ps l h hl
  rw [bulk_lst]; omega
theorem er_nP {kv : Value} {ps : List (Value × List UInt8)} {l : List Nat} (h : ps.map (·.2) = l.map numB) : erI (lst kv (txts ps)) = nP l := by
  unfold lst nP
  rw [erI_mk, if_pos rfl, ← h]
  unfold txts
  rw [List.map_map, List.map_map]
  exact congrArg Pit.lst (List.map_congr_left fun p _ => by show erI (txt p.1 p.2) = _; unfold txt; rw [erI_mk]; rfl)
set_option maxHeartbeats 2000000 in
set_option maxRecDepth 100000 in
theorem cwrite_any (t : Sto) (k : t.Ok) (vs vn : Value) (w : World) (h1 : RowOf u64c 1 w vs t.s) (h2 : RowOf u64c 1 w vn t.n) : Calls Try.prog 22 #[.agg (hdcs t.hd ++ [vs, vn]).toArray] w fun e w' => ∃ v, e = .returned v ∧ Bytes w' v (wC t) ∧ Below w.heap.size w w' := by
  obtain ⟨sa, sc, rfl, _⟩ := h1.form
  obtain ⟨na, nc, rfl, _⟩ := h2.form
  obtain ⟨sn, hsn⟩ : ∃ sn, sn = t.s.length := ⟨_, rfl⟩
  obtain ⟨nn, hnn⟩ : ∃ nn, nn = t.n.length := ⟨_, rfl⟩
  rw [← hsn] at h1
  rw [← hnn] at h2
  rw [← hsn, ← hnn]
  obtain ⟨w1, hw1⟩ : ∃ w1, w1 = w.alloc (.cells (hdcs t.hd ++ [Value.slice sa sn sc, Value.slice na nn nc]).toArray 38) := ⟨_, rfl⟩
  have hz1 : Blk 38 w1 w.heap.size (hdcs t.hd ++ [Value.slice sa sn sc, Value.slice na nn nc]) := by rw [hw1]; exact Blk.new w _ _
  have hbel1 : Below w.heap.size w w1 := by rw [hw1]; exact (Below.refl _ _).alloc (Nat.le_refl _) _
  have Hw1 := Lib.hid hw1
  have hr := hz1.range 0 204
  rw [stc_hd k.hd] at hr
  have R1 := Lib.hid hr
  have j1 := fun u : Ext w1 => u.cell ((hz1.cell 204).trans (stc_s k.hd _ _))
  have j2 := fun u : Ext w1 => u.cell ((hz1.cell 205).trans (stc_n k.hd _ _))
  have hl := hdcs_len k.hd
  have K := Lib.hid k
  have c1 := fun u => hwrite_any t.hd k.hd u
  have c2 : ∀ u, Below w1.heap.size w1 u → _ := fun u hu => clist_any sa sn sc t.s hsn.symm (by rw [hsn]; exact k.sl) k.s u (h1.below (Below.then hbel1 hu))
  have c3 : ∀ u, Below w1.heap.size w1 u → _ := fun u hu => clist_any na nn nc t.n hnn.symm (by rw [hnn]; exact k.nl) k.n u (h2.below (Below.then hbel1 hu))
  have C1 := Lib.hid c1
  have C2 := Lib.hid c2
  have C3 := Lib.hid c3
  have hwl := wH_len k.hd
  clear c1 c2 c3 k hw1 hz1 hr hsn hnn h1 h2
  go_enter Try.func22, Try.ntmps22
  go_wp2_with fail
  rw [← Hw1.out]
  refine wp_region_typed w1 13 (by kernel_rfl) (by kernel_rfl) (Below.refl _ _) ?_; simp only [List.take_succ_cons, List.take_zero, List.take_nil]
  (refine wpX_step (by rfl) (fun K hK => ?_); go_simp; first | (refine hK _ ?_; clear hK K) | (apply Exists.intro; refine ⟨fun _ => ?_, hK _ ?_⟩; fail; clear hK K))
  (refine wpX_step (by rfl) (fun K hK => ?_); rw [if_pos (by rfl)]; refine ⟨_, fun u => const_loadm _ (.tmp 3) (by rfl) _ _ (by rfl) aggHd hl (rangeAt.ext R1.out u), hK _ ?_⟩; clear hK K; simp only [Act.put, List.setIfInBounds_toArray, List.set_cons_zero, List.set_cons_succ])
  refine wpX_rel 5 (TxB 0 (wH t.hd)) rfl (of_decide_eq_true rfl) (TxB.mono _ _) (fun w2 hw2 => ?_) ?_
  · simp only [relOf, List.filter_nil, forallRel]
    refine ⟨rfl, ?_⟩
    go_simp
    refine (C1.out w2).mono ?_
    rintro e w3 ⟨v, rfl, o3, b3⟩
    exact ⟨v, rfl, ⟨o3.row, fun _ _ => Nat.zero_le _⟩, b3⟩
  refine wpX_rel 6 (PItm (.txt (wH t.hd)) 1001) rfl (of_decide_eq_true rfl) (PItm.mono _ _) (fun w2 hw2 => ?_) ?_
  · change forallRel w2 [(5, _)] _ _
    intro v5 h5
    obtain ⟨a5, c5, rfl, _⟩ := h5.1.form
    simp only [forallRel]
    refine ⟨rfl, ?_⟩
    go_simp
    refine (text_any _ _ _ _).mono ?_
    rintro e w3 ⟨rfl, b3⟩
    refine ⟨_, rfl, ⟨false, a5, _, c5, none, 0, 0, wH t.hd, [], rfl, IsItm.txt (RowOf.kept (f := b8) (size := 1) h5.1 b3), by rw [erI_mk]; rfl, ?_⟩, b3⟩
    have := bulk_txt (.slice a5 (wH t.hd).length c5) (wH t.hd)
    unfold txt at this
    rw [this]; omega
  iterate 2 (refine wpX_step (by rfl) (fun K hK => ?_); go_simp; first | (refine hK _ ?_; clear hK K) | (apply Exists.intro; refine ⟨fun _ => ?_, hK _ ?_⟩; fail; clear hK K))
  refine wpX_rel 9 (PItm (nP t.s) 9437185) rfl (of_decide_eq_true rfl) (PItm.mono _ _) (fun w2 hw2 => ?_) ?_
  · simp only [relOf, List.filter_nil, List.filter_cons, forallRel]
    try simp only [forallRel]
    refine ⟨rfl, ?_⟩
    go_simp
    refine (C2.out w2 hw2).mono ?_
    rintro e w3 ⟨kv, ps, rfl, hI, hps, b3⟩
    obtain ⟨ka, kc, rfl, _⟩ := hI.inv.2.1.form
    exact ⟨_, rfl, ⟨true, none, 0, 0, ka, _, kc, [], txts ps, rfl, hI, er_nP hps, bulk_nP hps K.out.s K.out.sl⟩, b3⟩
  iterate 2 (refine wpX_step (by rfl) (fun K hK => ?_); go_simp; first | (refine hK _ ?_; clear hK K) | (apply Exists.intro; refine ⟨fun _ => ?_, hK _ ?_⟩; fail; clear hK K))
  refine wpX_rel 12 (PItm (nP t.n) 9437185) rfl (of_decide_eq_true rfl) (PItm.mono _ _) (fun w2 hw2 => ?_) ?_
  · simp only [relOf, List.filter_nil, List.filter_cons, forallRel]
    try simp only [forallRel]
    refine ⟨rfl, ?_⟩
    go_simp
    refine (C3.out w2 hw2).mono ?_
    rintro e w3 ⟨kv, ps, rfl, hI, hps, b3⟩
    obtain ⟨ka, kc, rfl, _⟩ := hI.inv.2.1.form
    exact ⟨_, rfl, ⟨true, none, 0, 0, ka, _, kc, [], txts ps, rfl, hI, er_nP hps, bulk_nP hps K.out.n K.out.nl⟩, b3⟩
  refine wpX_rel 13 (PRow [.txt (wH t.hd), nP t.s, nP t.n] 18876000) rfl (of_decide_eq_true rfl) (PRow.mono _ _) (fun w2 hw2 => ?_) ?_
  · change forallRel w2 [(12, _), (9, _), (6, _)] _ _
    rintro v12 ⟨l3, a3, n3, c3, a3', n3', c3', t3, ks3, rfl, i3, e3, b3⟩ v9 ⟨l2, a2, n2, c2, a2', n2', c2', t2, ks2, rfl, i2, e2, b2⟩ v6 ⟨l1, a1, n1, c1, a1', n1', c1', t1, ks1, rfl, i1, e1, b1⟩
    simp only [forallRel]
    refine ⟨rfl, ?_⟩
    go_simp
    have hb18 : Below w2.heap.size w2 (w2.alloc (.cells #[.bool l1, .slice a1 n1 c1, .slice a1' n1' c1', .bool l2, .slice a2 n2 c2, .slice a2' n2' c2', .bool l3, .slice a3 n3 c3, .slice a3' n3' c3'] 128)) := (Below.refl _ _).alloc (Nat.le_refl _) _
    refine ⟨hb18, some ⟨w2.heap.size, 0, none⟩, 3, 3, [.mk l1 (.slice a1 n1 c1) t1 (.slice a1' n1' c1') ks1, .mk l2 (.slice a2 n2 c2) t2 (.slice a2' n2' c2') ks2, .mk l3 (.slice a3 n3 c3) t3 (.slice a3' n3' c3') ks3], rfl, Row.built icells_len w2 128 _ 3 rfl (by unfold maxLen; omega), ?_, ?_, ?_⟩
    · intro i hi
      simp only [List.mem_cons, List.not_mem_nil, or_false] at hi
      rcases hi with rfl | rfl | rfl
      · exact i1.kept hb18
      · exact i2.kept hb18
      · exact i3.kept hb18
    · simp only [List.map_cons, List.map_nil, e1, e2, e3]
    · simp only [bulkL]; omega
  refine wpX_rel 14 (PItm (pitC t) 18876001) rfl (of_decide_eq_true rfl) (PItm.mono _ _) (fun w2 hw2 => ?_) ?_
  · change forallRel w2 [(13, _)] _ _
    rintro v13 ⟨a, n, c, its, rfl, r, hi, he, hb⟩
    simp only [forallRel]
    refine ⟨rfl, ?_⟩
    go_simp
    refine (list_any _ _ _ _).mono ?_
    rintro e w3 ⟨rfl, b3⟩
    refine ⟨_, rfl, ⟨true, none, 0, 0, a, n, c, [], its, rfl, IsItm.lst (RowOf.kept r b3) (fun i h => (hi i h).kept b3), ?_, ?_⟩, b3⟩
    · rw [erI_mk, if_pos rfl, he]; rfl
    · have := bulk_lst (.slice a n c) its
      unfold lst at this
      rw [this]; omega
  refine wpX_rel 15 (TxB 0 (wC t)) rfl (of_decide_eq_true rfl) (TxB.mono _ _) (fun w2 hw2 => ?_) ?_
  · change forallRel w2 [(14, _)] _ _
    rintro v14 ⟨l1, a1, n1, c1, a1', n1', c1', t1, ks1, rfl, i1, e1, b1⟩
    simp only [forallRel]
    refine ⟨rfl, ?_⟩
    go_simp
    have enc := encode_any 18876001 _ w2 b1 (by omega) i1
    unfold EncPost at enc
    rw [encP_er, e1] at enc
    refine enc.mono ?_
    rintro e w3 ⟨v, rfl, o3, b3⟩
    exact ⟨v, rfl, ⟨o3.row, fun _ _ => Nat.zero_le _⟩, b3⟩
  refine wpX_nil ?_
  intro u2 hb2 v5 h5 v6 h6 v9 h9 v12 h12 v13 h13 v14 h14 v15 h15
  change wpList _ _ _ [_] _ _
  have hbel2 := Below.then hbel1 hb2
  go_wp2_with fail
  go_ret
  exact ⟨_, rfl, h15.1, hbel2⟩
end Go.Proofs.Ytffkjjpjfehcnaa
