/- The walk of the law LightApplies. -/
import Derived.Test.YtgjgokcpampljaaLt14
set_option linter.unusedSimpArgs false
set_option linter.unusedVariables false
namespace Go.Proofs.Ytgjgokcpampljaa
open Go.RowKit
structure LaW (W : World) (C D : List Value) (u : World) : Prop where
  hb : Below W.heap.size W u
  z1 : Blk 31 u W.heap.size C
  z2 : Blk 33 u (W.heap.size + 1) D
theorem LaW.kept {W : World} {C D : List Value} {u u' : World} (h : LaW W C D u) (hb : Below u.heap.size u u') : LaW W C D u' := ⟨Below.then h.hb hb, h.z1.kept hb, h.z2.kept hb⟩
set_option maxHeartbeats 4000000 in
set_option maxRecDepth 100000 in
theorem lightApplies_walk (t : Sto) (k : t.In) (p : Upd) (ku : p.Ok) (V : List Vt) (hvs : V.length ≤ 140737488355328) (hV : ∀ v ∈ V, v.Ok) (va : Option Addr) (vc : Nat) (vs vn vu : Value) (m : Nat) (hm : m < 18446744073709551616) (W : World) (h1 : RowOf u64c 1 W vs t.s) (h2 : RowOf u64c 1 W vn t.n) (h3 : RowOf u64c 1 W vu p.n) (hv : RowOf vtc 33 W (.slice va V.length vc) V) :
    Calls Try.prog 3 #[.agg (hdcs t.hd ++ [vs, vn]).toArray, .agg (updc p.hd p.mask vu).toArray, .slice va V.length vc, .int .u64 (m : Int)] W fun e w' => e = .returned (.bool true) ∧ Below W.heap.size W w' := by
  have A1 : Hid (∀ u, Below W.heap.size W u → _) := Lib.hid fun u hu => apply_any t k p ku V hvs hV va vc vs vn vu u (h1.below hu) (h2.below hu) (h3.below hu) (hv.below hu)
  have A2 : Hid (∀ u, Below W.heap.size W u → _) := Lib.hid fun u hu => ltapply_any t k p ku V hvs va vc vs vn vu u (h1.below hu) (h2.below hu) (h3.below hu) (hv.below hu)
  have hRk : (ltA t p V).2.hd.Ok := ltA_ok ku
  obtain ⟨⟨re, R⟩, hR⟩ : ∃ R, ltA t p V = R := ⟨_, rfl⟩
  rw [hR] at A1 A2 hRk
  change R.hd.Ok at hRk
  obtain ⟨sa, sc, rfl, _⟩ := h1.form
  obtain ⟨sn, hsn⟩ : ∃ x, t.s.length = x := ⟨_, rfl⟩
  rw [hsn] at h1 A1 A2 ⊢
  have hsl : sn ≤ 17592186044416 := by rw [← hsn]; exact k.sl
  have A3 : Hid (∀ u, Below W.heap.size W u → _) := Lib.hid fun u hu => begin_any t.hd k.hd t.s sa sn sc hsn hsl u (h1.below hu)
  have A4 : Hid (∀ u, Below W.heap.size W u → _) := Lib.hid fun u hu => vright_any sa sn sc t.s hsn hsl u (h1.below hu)
  have PD := period_atB m hm
  have em := u64_quo m hm
  obtain ⟨B, hB⟩ : ∃ B, rightB t.s = B := ⟨_, rfl⟩
  unfold beg at A3
  rw [hB] at A3 A4
  have SAME : Hid (∀ (u : World) (a b c d : Value), RowOf u64c 1 u a R.s → RowOf u64c 1 u b R.n → RowOf u64c 1 u c R.s → RowOf u64c 1 u d R.n → _) := Lib.hid fun u a b c d r1 r2 r3 r4 => samestore_any R hRk a b c d u r1 r2 r3 r4
  have SAM0 : Hid (∀ (u : World) (a b c d : Value), RowOf u64c 1 u a t.s → RowOf u64c 1 u b [] → RowOf u64c 1 u c t.s → RowOf u64c 1 u d [] → _) := Lib.hid fun u a b c d r1 r2 r3 r4 => samestore_any ⟨t.hd, t.s, []⟩ k.hd a b c d u r1 r2 r3 r4
  obtain ⟨Z, hZ⟩ : ∃ Z, Z = zH := ⟨_, rfl⟩
  have hZk : Z.Ok := by rw [hZ]; exact zH_ok
  have ZK := Lib.hid hZk
  have hZc : Try.zeroCells31 = (hdcs Z ++ [Value.slice none 0 0, Value.slice none 0 0]).toArray := by rw [hZ]; exact zcSt
  have HZc := Lib.hid hZc
  have SAMZ : Hid (∀ (u : World) (a b c d : Value), RowOf u64c 1 u a [] → RowOf u64c 1 u b [] → RowOf u64c 1 u c [] → RowOf u64c 1 u d [] → _) := Lib.hid fun u a b c d r1 r2 r3 r4 => samestore_any ⟨Z, [], []⟩ hZk a b c d u r1 r2 r3 r4
  have HZ := Lib.hid hZ
  clear hZ hZc hZk
  have e1 := Lib.hid (stc_s k.hd (Value.slice sa sn sc) vn)
  have e3 := Lib.hid (stc_hd k.hd (Value.slice sa sn sc) vn)
  have hlH := hdcs_len k.hd
  have hlC := stc_len k.hd (Value.slice sa sn sc) vn
  have hlD := updc_len ku.hd p.mask vu
  have hBu := Lib.hid (built_st1 k.hd sa sn sc)
  have K := Lib.hid k
  have RK := Lib.hid hRk
  have H1 := Lib.hid h1
  generalize hdcs t.hd ++ [Value.slice sa sn sc, vn] = C at *
  generalize updc p.hd p.mask vu = D at *
  obtain ⟨w1, hw1⟩ : ∃ w1, w1 = (W.alloc (.cells C.toArray 31)).alloc (.cells D.toArray 33) := ⟨_, rfl⟩
  have F : LaW W C D w1 := by
    rw [hw1]
    refine ⟨((Below.refl _ _).alloc (Nat.le_refl _) _).alloc (by simp) _, (Blk.new W _ _).alloc _, ?_⟩
    have := Blk.new (W.alloc (.cells C.toArray 31)) 33 D
    simp only [World.size_alloc] at this
    exact this
  have Hw1 := Lib.hid hw1
  clear k ku hvs hV h1 h2 h3 hv hR hRk hsn hsl hB hw1
  obtain ⟨M8, hM8⟩ : ∃ M8, m / 8 = M8 := ⟨_, rfl⟩
  have zm : ((m : Int) / 8) = (M8 : Int) := by omega
  rw [hM8] at PD
  clear hM8 em
  cases B with
  | false =>
    rw [if_neg (by simp)] at A3
    have A3 : Hid (∀ u, Below W.heap.size W u → Calls Try.prog 17 #[.agg (hdcs t.hd).toArray, .slice sa sn sc] u fun e w' => ∃ a b, e = .returned (.tuple #[.agg (hdcs Z ++ [a, b]).toArray, .int .i64 23]) ∧ RowOf u64c 1 w' a ([] : List Nat) ∧ RowOf u64c 1 w' b ([] : List Nat) ∧ Below u.heap.size u w') := Lib.hid fun u hu => (by rw [HZ.out]; exact A3.out u hu)
    go_enter Try.func3, Try.ntmps3
    go_wp2_with (first
      | (rw [← Hw1.out])
      | ((with_reducible show wpList _ _ _ (⟨some 17, _, _, _, _, _⟩ :: _) _ _); refine wpList_loadA (o := ⟨some 17, _, _, _, _, _⟩) (by rfl) 31 (.tmp 4) (by rfl) W.heap.size (by rfl) aggSt F.z1 hlC ?_)
      | ((with_reducible show wpList _ _ _ (⟨some 18, _, _, _, _, _⟩ :: _) _ _); refine wpList_loadA (o := ⟨some 18, _, _, _, _, _⟩) (by rfl) 33 (.tmp 5) (by rfl) (W.heap.size + 1) (by rfl) aggUp F.z2 hlD ?_)
      | ((with_reducible show wpList _ _ _ (⟨some 24, _, _, _, _, _⟩ :: _) _ _); refine wpList_loadA (o := ⟨some 24, _, _, _, _, _⟩) (by rfl) 31 (.tmp 4) (by rfl) W.heap.size (by rfl) aggSt F.z1 hlC ?_)
      | ((with_reducible show wpList _ _ _ (⟨some 25, _, _, _, _, _⟩ :: _) _ _); refine wpList_loadA (o := ⟨some 25, _, _, _, _, _⟩) (by rfl) 33 (.tmp 5) (by rfl) (W.heap.size + 1) (by rfl) aggUp F.z2 hlD ?_)
      | (go_at_call 15; refine (A1.out _ F.hb).mono ?_; rintro e w2 ⟨v1, v2, rfl, r1, r2, b2⟩; obtain ⟨p1, q1, rfl, _⟩ := r1.form; obtain ⟨p2, q2, rfl, _⟩ := r2.form; have F := F.kept b2)
      | ((with_reducible show wpList _ _ _ (⟨none, Op.store _ _ (Operand.tmp 21), _, _, _, _⟩ :: _) _ _); refine wpList_storeA (o := ⟨none, _, _, _, _, _⟩) (by rfl) 31 (.tmp 9) (.tmp 21) (by rfl) w2.heap.size (hdcs R.hd ++ [.slice p1 R.s.length q1, .slice p2 R.n.length q2]) (by rfl) (by rfl) aggSt (old := zst) (by rw [zcSt]; exact Blk.new w2 _ _) (stc_len RK.out _ _) zst_len (stc_one _ _ _ _ _ _ _) ((Below.refl w2.heap.size w2).alloc (Nat.le_refl _) _) (Nat.le_refl _) ?_; intro w3 y9 bb9 _; have F := F.kept bb9; have r1 := r1.kept bb9; have r2 := r2.kept bb9)
      | (go_at_call 16; refine (A2.out _ F.hb).mono ?_; rintro e w4 ⟨v3, v4, rfl, r3, r4, b4⟩; obtain ⟨p3, q3, rfl, _⟩ := r3.form; obtain ⟨p4, q4, rfl, _⟩ := r4.form; have F := F.kept b4; have r1 := r1.kept b4; have r2 := r2.kept b4; have y9 := y9.kept b4)
      | ((with_reducible show wpList _ _ _ (⟨none, Op.store _ _ (Operand.tmp 28), _, _, _, _⟩ :: _) _ _); refine wpList_storeA (o := ⟨none, _, _, _, _, _⟩) (by rfl) 31 (.tmp 11) (.tmp 28) (by rfl) w4.heap.size (hdcs R.hd ++ [.slice p3 R.s.length q3, .slice p4 R.n.length q4]) (by rfl) (by rfl) aggSt (old := zst) (by rw [zcSt]; exact Blk.new w4 _ _) (stc_len RK.out _ _) zst_len (stc_one _ _ _ _ _ _ _) ((Below.refl w4.heap.size w4).alloc (Nat.le_refl _) _) (Nat.le_refl _) ?_; intro w5 y11 bb11 _; have F := F.kept bb11; have r1 := r1.kept bb11; have r2 := r2.kept bb11; have r3 := r3.kept bb11; have r4 := r4.kept bb11; have y9 := y9.kept bb11; have cs := blk_cell F.z1 e1; have RD := (rng F.z1 e3).out)
      | ((with_reducible show wpList _ _ _ (⟨some 32, _, _, _, _, _⟩ :: _) _ _); refine wpList_loadW (o := ⟨some 32, _, _, _, _, _⟩) 28 (.tmp 31) (by rfl) W.heap.size 0 (by rfl) aggHd hlH RD (by rfl) ?_)
      | (go_at_call 17; refine (A3.out _ F.hb).mono ?_; rintro e w6 ⟨v5, v6, rfl, r5, r6, b6⟩; obtain ⟨p5, q5, rfl, _⟩ := r5.form' 0 rfl; obtain ⟨p6, q6, rfl, _⟩ := r6.form' 0 rfl; have F := F.kept b6; have r1 := r1.kept b6; have r2 := r2.kept b6; have r3 := r3.kept b6; have r4 := r4.kept b6; have y9 := y9.kept b6; have y11 := y11.kept b6)
      | ((with_reducible show wpList _ _ _ (⟨none, Op.store _ _ (Operand.tmp 36), _, _, _, _⟩ :: _) _ _); refine wpList_storeA (o := ⟨none, _, _, _, _, _⟩) (by rfl) 31 (.tmp 13) (.tmp 36) (by rfl) w6.heap.size (hdcs Z ++ [.slice p5 0 q5, .slice p6 0 q6]) (by rfl) (by rfl) aggSt (old := zst) (by rw [zcSt]; exact Blk.new w6 _ _) (stc_len ZK.out _ _) zst_len (stc_one _ _ _ _ _ _ _) ((Below.refl w6.heap.size w6).alloc (Nat.le_refl _) _) (Nat.le_refl _) ?_; intro w7 y13 bb13 _; have F := F.kept bb13; have r1 := r1.kept bb13; have r2 := r2.kept bb13; have r3 := r3.kept bb13; have r4 := r4.kept bb13; have r5 := r5.kept bb13; have r6 := r6.kept bb13; have y9 := y9.kept bb13; have y11 := y11.kept bb13; have cs := blk_cell F.z1 e1; have RD := (rng F.z1 e3).out)
      | ((with_reducible show wpList _ _ _ (⟨some 53, _, _, _, _, _⟩ :: _) _ _); refine wpList_loadW (o := ⟨some 53, _, _, _, _, _⟩) 31 (.tmp 13) (by rfl) w6.heap.size 0 (by rfl) aggSt (stc_len ZK.out _ _) (Blk.all0 y13) (by rfl) ?_)
      | (go_at_call 18; rw [HZc.out]; refine (SAMZ.out _ _ _ _ _ r5 r6 (RowOf.nil u64c 1 _) (RowOf.nil u64c 1 _)).mono ?_; rintro e w9 ⟨rfl, b9⟩; have F := F.kept b9; have r1 := r1.kept b9; have r2 := r2.kept b9; have r3 := r3.kept b9; have r4 := r4.kept b9; have y9 := y9.kept b9; have y11 := y11.kept b9; have cs := blk_cell F.z1 e1)
      | (go_at_call 19; refine (PD.out _).mono ?_; rintro e w8 ⟨rfl, b8⟩; have F := F.kept b8; have r1 := r1.kept b8; have r2 := r2.kept b8; have r3 := r3.kept b8; have r4 := r4.kept b8; have y9 := y9.kept b8; have y11 := y11.kept b8; have cs := blk_cell F.z1 e1)
      | ((with_reducible show wpList _ _ _ (⟨some 69, _, _, _, _, _⟩ :: _) _ _); refine wpList_loadW (o := ⟨some 69, _, _, _, _, _⟩) 31 (.tmp 9) (by rfl) w2.heap.size 0 (by rfl) aggSt (stc_len RK.out _ _) (Blk.all0 y9) (by rfl) ?_)
      | ((with_reducible show wpList _ _ _ (⟨some 70, _, _, _, _, _⟩ :: _) _ _); refine wpList_loadW (o := ⟨some 70, _, _, _, _, _⟩) 31 (.tmp 11) (by rfl) w4.heap.size 0 (by rfl) aggSt (stc_len RK.out _ _) (Blk.all0 y11) (by rfl) ?_)
      | (go_at_call 18; refine (SAME.out _ _ _ _ _ r1 r2 r3 r4).mono ?_; rintro e w9 ⟨rfl, b9⟩; have F := F.kept b9; have r1 := r1.kept b9; have r2 := r2.kept b9; have r3 := r3.kept b9; have r4 := r4.kept b9; have y9 := y9.kept b9; have y11 := y11.kept b9; have cs := blk_cell F.z1 e1)
      | (go_at_call 20; refine (A4.out _ F.hb).mono ?_; rintro e w10 ⟨rfl, b10⟩; have F := F.kept b10))
    go_ret
    exact ⟨rfl, F.hb⟩
  | true =>
    rw [if_pos rfl] at A3
    have A3 : Hid (∀ u, Below W.heap.size W u → Calls Try.prog 17 #[.agg (hdcs t.hd).toArray, .slice sa sn sc] u fun e w' => ∃ a b, e = .returned (.tuple #[.agg (hdcs t.hd ++ [a, b]).toArray, .int .i64 0]) ∧ RowOf u64c 1 w' a t.s ∧ RowOf u64c 1 w' b ([] : List Nat) ∧ Below u.heap.size u w') := Lib.hid fun u hu => A3.out u hu
    go_enter Try.func3, Try.ntmps3
    go_wp2_with (first
      | (rw [← Hw1.out])
      | ((with_reducible show wpList _ _ _ (⟨some 17, _, _, _, _, _⟩ :: _) _ _); refine wpList_loadA (o := ⟨some 17, _, _, _, _, _⟩) (by rfl) 31 (.tmp 4) (by rfl) W.heap.size (by rfl) aggSt F.z1 hlC ?_)
      | ((with_reducible show wpList _ _ _ (⟨some 18, _, _, _, _, _⟩ :: _) _ _); refine wpList_loadA (o := ⟨some 18, _, _, _, _, _⟩) (by rfl) 33 (.tmp 5) (by rfl) (W.heap.size + 1) (by rfl) aggUp F.z2 hlD ?_)
      | ((with_reducible show wpList _ _ _ (⟨some 24, _, _, _, _, _⟩ :: _) _ _); refine wpList_loadA (o := ⟨some 24, _, _, _, _, _⟩) (by rfl) 31 (.tmp 4) (by rfl) W.heap.size (by rfl) aggSt F.z1 hlC ?_)
      | ((with_reducible show wpList _ _ _ (⟨some 25, _, _, _, _, _⟩ :: _) _ _); refine wpList_loadA (o := ⟨some 25, _, _, _, _, _⟩) (by rfl) 33 (.tmp 5) (by rfl) (W.heap.size + 1) (by rfl) aggUp F.z2 hlD ?_)
      | (go_at_call 15; refine (A1.out _ F.hb).mono ?_; rintro e w2 ⟨v1, v2, rfl, r1, r2, b2⟩; obtain ⟨p1, q1, rfl, _⟩ := r1.form; obtain ⟨p2, q2, rfl, _⟩ := r2.form; have F := F.kept b2)
      | ((with_reducible show wpList _ _ _ (⟨none, Op.store _ _ (Operand.tmp 21), _, _, _, _⟩ :: _) _ _); refine wpList_storeA (o := ⟨none, _, _, _, _, _⟩) (by rfl) 31 (.tmp 9) (.tmp 21) (by rfl) w2.heap.size (hdcs R.hd ++ [.slice p1 R.s.length q1, .slice p2 R.n.length q2]) (by rfl) (by rfl) aggSt (old := zst) (by rw [zcSt]; exact Blk.new w2 _ _) (stc_len RK.out _ _) zst_len (stc_one _ _ _ _ _ _ _) ((Below.refl w2.heap.size w2).alloc (Nat.le_refl _) _) (Nat.le_refl _) ?_; intro w3 y9 bb9 _; have F := F.kept bb9; have r1 := r1.kept bb9; have r2 := r2.kept bb9)
      | (go_at_call 16; refine (A2.out _ F.hb).mono ?_; rintro e w4 ⟨v3, v4, rfl, r3, r4, b4⟩; obtain ⟨p3, q3, rfl, _⟩ := r3.form; obtain ⟨p4, q4, rfl, _⟩ := r4.form; have F := F.kept b4; have r1 := r1.kept b4; have r2 := r2.kept b4; have y9 := y9.kept b4)
      | ((with_reducible show wpList _ _ _ (⟨none, Op.store _ _ (Operand.tmp 28), _, _, _, _⟩ :: _) _ _); refine wpList_storeA (o := ⟨none, _, _, _, _, _⟩) (by rfl) 31 (.tmp 11) (.tmp 28) (by rfl) w4.heap.size (hdcs R.hd ++ [.slice p3 R.s.length q3, .slice p4 R.n.length q4]) (by rfl) (by rfl) aggSt (old := zst) (by rw [zcSt]; exact Blk.new w4 _ _) (stc_len RK.out _ _) zst_len (stc_one _ _ _ _ _ _ _) ((Below.refl w4.heap.size w4).alloc (Nat.le_refl _) _) (Nat.le_refl _) ?_; intro w5 y11 bb11 _; have F := F.kept bb11; have r1 := r1.kept bb11; have r2 := r2.kept bb11; have r3 := r3.kept bb11; have r4 := r4.kept bb11; have y9 := y9.kept bb11; have cs := blk_cell F.z1 e1; have RD := (rng F.z1 e3).out)
      | ((with_reducible show wpList _ _ _ (⟨some 32, _, _, _, _, _⟩ :: _) _ _); refine wpList_loadW (o := ⟨some 32, _, _, _, _, _⟩) 28 (.tmp 31) (by rfl) W.heap.size 0 (by rfl) aggHd hlH RD (by rfl) ?_)
      | (go_at_call 17; refine (A3.out _ F.hb).mono ?_; rintro e w6 ⟨v5, v6, rfl, r5, r6, b6⟩; obtain ⟨p5, q5, rfl, _⟩ := r5.form; obtain ⟨p6, q6, rfl, _⟩ := r6.form' 0 rfl; have F := F.kept b6; have r1 := r1.kept b6; have r2 := r2.kept b6; have r3 := r3.kept b6; have r4 := r4.kept b6; have y9 := y9.kept b6; have y11 := y11.kept b6)
      | ((with_reducible show wpList _ _ _ (⟨none, Op.store _ _ (Operand.tmp 36), _, _, _, _⟩ :: _) _ _); refine wpList_storeA (o := ⟨none, _, _, _, _, _⟩) (by rfl) 31 (.tmp 13) (.tmp 36) (by rfl) w6.heap.size (hdcs t.hd ++ [.slice p5 t.s.length q5, .slice p6 0 q6]) (by rfl) (by rfl) aggSt (old := zst) (by rw [zcSt]; exact Blk.new w6 _ _) (stc_len K.out.hd _ _) zst_len (stc_one _ _ _ _ _ _ _) ((Below.refl w6.heap.size w6).alloc (Nat.le_refl _) _) (Nat.le_refl _) ?_; intro w7 y13 bb13 _; have F := F.kept bb13; have r1 := r1.kept bb13; have r2 := r2.kept bb13; have r3 := r3.kept bb13; have r4 := r4.kept bb13; have r5 := r5.kept bb13; have r6 := r6.kept bb13; have y9 := y9.kept bb13; have y11 := y11.kept bb13; have cs := blk_cell F.z1 e1; have RD := (rng F.z1 e3).out)
      | ((with_reducible show wpList _ _ _ (⟨some 41, _, _, _, _, _⟩ :: _) _ _); refine wpList_loadW (o := ⟨some 41, _, _, _, _, _⟩) 31 (.tmp 13) (by rfl) w6.heap.size 0 (by rfl) aggSt (stc_len K.out.hd _ _) (Blk.all0 y13) (by rfl) ?_)
      | ((with_reducible show wpList _ _ _ (⟨some 43, _, _, _, _, _⟩ :: _) _ _); refine wpList_loadW (o := ⟨some 43, _, _, _, _, _⟩) 28 (.tmp 42) (by rfl) W.heap.size 0 (by rfl) aggHd hlH RD (by rfl) ?_)
      | ((with_reducible show wpList _ _ _ (⟨some 46, _, _, _, _, _⟩ :: _) _ _); refine wpList_buildG (o := ⟨some 46, _, _, _, _, _⟩) 31 [(0, .tmp 43), (1, .tmp 45)] (by rfl) _ (by rfl) _ hBu.out (by rfl) ?_)
      | (go_at_call 18; refine (SAM0.out _ _ _ _ _ r5 r6 (H1.out.below F.hb) (RowOf.nil u64c 1 _)).mono ?_; rintro e w9 ⟨rfl, b9⟩; have F := F.kept b9; have r1 := r1.kept b9; have r2 := r2.kept b9; have r3 := r3.kept b9; have r4 := r4.kept b9; have y9 := y9.kept b9; have y11 := y11.kept b9; have cs := blk_cell F.z1 e1)
      | (go_at_call 19; refine (PD.out _).mono ?_; rintro e w8 ⟨rfl, b8⟩; have F := F.kept b8; have r1 := r1.kept b8; have r2 := r2.kept b8; have r3 := r3.kept b8; have r4 := r4.kept b8; have y9 := y9.kept b8; have y11 := y11.kept b8; have cs := blk_cell F.z1 e1)
      | ((with_reducible show wpList _ _ _ (⟨some 69, _, _, _, _, _⟩ :: _) _ _); refine wpList_loadW (o := ⟨some 69, _, _, _, _, _⟩) 31 (.tmp 9) (by rfl) w2.heap.size 0 (by rfl) aggSt (stc_len RK.out _ _) (Blk.all0 y9) (by rfl) ?_)
      | ((with_reducible show wpList _ _ _ (⟨some 70, _, _, _, _, _⟩ :: _) _ _); refine wpList_loadW (o := ⟨some 70, _, _, _, _, _⟩) 31 (.tmp 11) (by rfl) w4.heap.size 0 (by rfl) aggSt (stc_len RK.out _ _) (Blk.all0 y11) (by rfl) ?_)
      | (go_at_call 18; refine (SAME.out _ _ _ _ _ r1 r2 r3 r4).mono ?_; rintro e w9 ⟨rfl, b9⟩; have F := F.kept b9; have r1 := r1.kept b9; have r2 := r2.kept b9; have r3 := r3.kept b9; have r4 := r4.kept b9; have y9 := y9.kept b9; have y11 := y11.kept b9; have cs := blk_cell F.z1 e1)
      | (go_at_call 20; refine (A4.out _ F.hb).mono ?_; rintro e w10 ⟨rfl, b10⟩; have F := F.kept b10))
    go_ret
    exact ⟨rfl, F.hb⟩
end Go.Proofs.Ytgjgokcpampljaa
