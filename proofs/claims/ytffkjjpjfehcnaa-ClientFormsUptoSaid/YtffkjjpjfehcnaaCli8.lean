/- The reference's CRead. -/
import Derived.Test.YtffkjjpjfehcnaaCli7
import Derived.Test.YtffkjjpjfehcnaaHdr13
set_option linter.unusedSimpArgs false
set_option linter.unusedVariables false
namespace Go.Proofs.Ytffkjjpjfehcnaa
open Go.RowKit
set_option maxHeartbeats 2000000 in
set_option maxRecDepth 100000 in
theorem creadS_bad1 (a : Option Addr) (L c : Nat) (b : List UInt8) (hL : b.length = L) (hLs : L ≤ 1048576) (hbad : decE b ≠ 0) (w : World) (h : Bytes w (.slice a L c) b) : Calls Try.prog 21 #[.slice a L c] w (ReadS b w) := by
  have hE := decE_01 b hbad
  have hpost : ∀ u, Below w.heap.size w u → ReadS b w (.returned (.tuple #[.agg zst.toArray, .int .i64 1])) u := fun u hu => ReadS.zero (rdC_form (.inl hbad)) hu
  have hz : Blk 38 (w.alloc (.cells Try.zeroCells38 38)) w.heap.size zst := by rw [zcSt]; exact Blk.new w _ _
  have hbel : Below w.heap.size w (w.alloc (.cells Try.zeroCells38 38)) := (Below.refl _ _).alloc (Nat.le_refl _) _
  have hlt0 := hz.lt
  have cc := fun u (hu : Bytes u (.slice a L c) b) => pdecode_any a L c b hL hLs u hu
  rw [hE] at cc
  have C := Lib.hid cc
  have Hpost := Lib.hid hpost
  have hl204 := zst_len
  clear cc hE hbad hL hLs hpost
  go_enter Try.func21, Try.ntmps21
  go_wp2_with (first
    | (go_at_call 77; (with_reducible refine (C.out _ (h.alloc _)).mono ?_); rintro e w1 ⟨it, rfl, b1, hF, hbare, he⟩; have hz1 := hz.kept b1; have hbel1 := Below.then hbel b1; have hs1 := Nat.lt_of_lt_of_le hlt0 b1.size; obtain ⟨l, tv, t, kv, ks⟩ := it; obtain ⟨ta, tc, rfl, _, _⟩ := hF.is.inv.1.form; obtain ⟨ka, kc, rfl, _, _⟩ := hF.is.inv.2.1.form; clear hF hbare he; simp only [icells])
    | ((with_reducible show wpList _ _ _ (⟨none, Op.store _ _ (Operand.tmp 14), _, _, _, _⟩ :: _) _ _); refine wpList_storeA (o := ⟨none, _, _, _, _, _⟩) (by rfl) 128 (.tmp 4) (.tmp 14) (by rfl) w1.heap.size [.bool l, .slice ta t.length tc, .slice ka ks.length kc] (by rfl) (by rfl) aggItem (Blk.new w1 128 [.bool false, .slice none 0 0, .slice none 0 0]) (by rfl) (by rfl) (by intro u hu; simp at hu; rcases hu with rfl | rfl | rfl <;> rfl) (((Below.refl w1.heap.size w1).alloc (Nat.le_refl _) (.cells #[.bool false, .slice none 0 0, .slice none 0 0] 128))) (Nat.le_refl _) ?_; intro w4 h4 b4 _; have hz4 := hz1.kept b4; have hbel4 := Below.then hbel1 b4)
    | ((with_reducible show wpList _ _ _ (⟨none, Op.store _ _ (Operand.tmp 24), _, _, _, _⟩ :: _) _ _); refine wpList_storeA (o := ⟨none, _, _, _, _, _⟩) (by rfl) 38 (.tmp 2) (.tmp 24) (by rfl) w.heap.size zst (by rfl) (by first | rfl | exact congrArg Value.agg zcSt) aggSt hz4 hl204 hl204 zst_one hbel4 (Nat.le_refl _) ?_; intro w5 hh5 hbel5 _))
  exact bodyPost_ret (v := .tuple #[.agg zst.toArray, .int .i64 1]) (results_blk_tmp rfl _ _ w.heap.size aggSt hh5 hl204 rfl rfl) rfl (Hpost.out _ hbel5)
set_option maxHeartbeats 2000000 in
set_option maxRecDepth 100000 in
theorem creadS_bad2 (a : Option Addr) (L c : Nat) (b : List UInt8) (hL : b.length = L) (hLs : L ≤ 1048576) (hE : decE b = 0) (hbad : kidsN (decP b) ≠ 3) (w : World) (h : Bytes w (.slice a L c) b) : Calls Try.prog 21 #[.slice a L c] w (ReadS b w) := by
  have hpost : ∀ u, Below w.heap.size w u → ReadS b w (.returned (.tuple #[.agg zst.toArray, .int .i64 1])) u := fun u hu => ReadS.zero (rdC_form (.inr hbad)) hu
  have hz : Blk 38 (w.alloc (.cells Try.zeroCells38 38)) w.heap.size zst := by rw [zcSt]; exact Blk.new w _ _
  have hbel : Below w.heap.size w (w.alloc (.cells Try.zeroCells38 38)) := (Below.refl _ _).alloc (Nat.le_refl _) _
  have hlt0 := hz.lt
  have cc := fun u (hu : Bytes u (.slice a L c) b) => pdecode_any a L c b hL hLs u hu
  rw [hE] at cc
  have C := Lib.hid cc
  have Hpost := Lib.hid hpost
  have Hbad := Lib.hid hbad
  have hl204 := zst_len
  clear cc hE hbad hL hLs hpost
  go_enter Try.func21, Try.ntmps21
  go_wp2_with (first
    | (go_at_call 77; (with_reducible refine (C.out _ (h.alloc _)).mono ?_); rintro e w1 ⟨it, rfl, b1, hF, hbare, he⟩; have hz1 := hz.kept b1; have hbel1 := Below.then hbel b1; have hs1 := Nat.lt_of_lt_of_le hlt0 b1.size; obtain ⟨l, tv, t, kv, ks⟩ := it; have hkk := (kids_of hbare he).1; obtain ⟨ta, tc, rfl, _, _⟩ := hF.is.inv.1.form; obtain ⟨ka, kc, rfl, _, _⟩ := hF.is.inv.2.1.form; obtain ⟨kn, hkn⟩ : ∃ kn, kn = ks.length := ⟨_, rfl⟩; change ks.length = _ at hkk; rw [← hkn] at hkk; have hne : ((kn : Int) != 3) = true := (by rw [bne_iff_ne]; intro e; exact Hbad.out (by omega)); rw [← hkn]; clear hF hbare he hkk hkn; simp only [icells])
    | ((with_reducible show wpList _ _ _ (⟨none, Op.store _ _ (Operand.tmp 14), _, _, _, _⟩ :: _) _ _); refine wpList_storeA (o := ⟨none, _, _, _, _, _⟩) (by rfl) 128 (.tmp 4) (.tmp 14) (by rfl) w1.heap.size [.bool l, .slice ta t.length tc, .slice ka kn kc] (by rfl) (by rfl) aggItem (Blk.new w1 128 [.bool false, .slice none 0 0, .slice none 0 0]) (by rfl) (by rfl) (by intro u hu; simp at hu; rcases hu with rfl | rfl | rfl <;> rfl) (((Below.refl w1.heap.size w1).alloc (Nat.le_refl _) (.cells #[.bool false, .slice none 0 0, .slice none 0 0] 128))) (Nat.le_refl _) ?_; intro w4 h4 b4 _; have hz4 := hz1.kept b4; have hbel4 := Below.then hbel1 b4; have c42 : w4.cell? ⟨w1.heap.size, 2, none⟩ = some (.slice ka kn kc) := h4.cell 2)
    | ((with_reducible show wpList _ _ _ (⟨none, Op.store _ _ (Operand.tmp 24), _, _, _, _⟩ :: _) _ _); refine wpList_storeA (o := ⟨none, _, _, _, _, _⟩) (by rfl) 38 (.tmp 2) (.tmp 24) (by rfl) w.heap.size zst (by rfl) (by first | rfl | exact congrArg Value.agg zcSt) aggSt hz4 hl204 hl204 zst_one hbel4 (Nat.le_refl _) ?_; intro w5 hh5 hbel5 _))
  exact bodyPost_ret (v := .tuple #[.agg zst.toArray, .int .i64 1]) (results_blk_tmp rfl _ _ w.heap.size aggSt hh5 hl204 rfl rfl) rfl (Hpost.out _ hbel5)
/-- the walk stops here -/
def PauseX (p : Prop) : Prop := p
theorem pauseX {p : Prop} (h : PauseX p) : p := h
theorem setsL_zst {H : Hd} (k : H.Ok) : setsL zst 0 (hdcs H) = hdcs H ++ [Value.slice none 0 0, Value.slice none 0 0] := setsL_app (hdcs zH) (hdcs H) (by rw [hdcs_len k, hdcs_len zH_ok]) [Value.slice none 0 0, Value.slice none 0 0] []
/-- what lies there while numbers are gathered: 'v' grows, behind 'B' -/
structure CrW (w w1 : World) (g4 gs B : Nat) (box cs : List Value) (fx : List (Value × List Nat)) (v : Value) (l : List Nat) (u : World) : Prop where
  hb : Below w.heap.size w u
  hk : Below w1.heap.size w1 u
  hz : Blk 38 u w.heap.size zst
  h4 : Blk 128 u g4 box
  hh : Blk 38 u gs cs
  hO : OwnOf u64c 1 24 u B v l
  hfx : ∀ p ∈ fx, OwnOf u64c 1 24 u 0 p.1 p.2 ∧ ∀ k, p.1.ownBlock = some k → k < B
  h0 : w.heap.size < w1.heap.size
  h1 : w1.heap.size ≤ g4
  h2 : g4 < gs
  h3 : gs < B
  hB : B ≤ u.heap.size
section
variable {w w1 : World} {g4 gs B : Nat} {box cs : List Value} {fx : List (Value × List Nat)} {v : Value} {l : List Nat} {u : World}
theorem CrW.kept {u' : World} (h : CrW w w1 g4 gs B box cs fx v l u) (hb : Below u.heap.size u u') : CrW w w1 g4 gs B box cs fx v l u' :=
  ⟨Below.then h.hb hb, Below.then h.hk hb, h.hz.kept hb, h.h4.kept hb, h.hh.kept hb, h.hO.kept hb, fun p hp => ⟨(h.hfx p hp).1.kept hb, (h.hfx p hp).2⟩, h.h0, h.h1, h.h2, h.h3, Nat.le_trans h.hB hb.size⟩
theorem CrW.grew {u' : World} {v' : Value} {l' : List Nat} (h : CrW w w1 g4 gs B box cs fx v l u) (hg : u.grownBy u' v.ownBlock) (hO : OwnOf u64c 1 24 u' B v' l') (i : Nat) : CrW w w1 g4 gs B box (cs.set i v') fx v' l' (u'.setCell ⟨gs, i, none⟩ v') := by
  have q0 := h.h0
  have q1 := h.h1
  have q2 := h.h2
  have q3 := h.h3
  have hB : ∀ k, v.ownBlock = some k → B ≤ k := fun k hk => h.hO.lt k hk
  have hne : ∀ b, b < B → v.ownBlock ≠ some b := fun b hb e => by have := hB b e; omega
  have hst : u'.grownBy (u'.setCell ⟨gs, i, none⟩ v') (some gs) := grown_cell i v'
  refine ⟨(h.hb.grown hg h.hb.size (fun k hk => by have := hB k hk; omega)).setCell (by show _ ≤ gs; omega) _, (h.hk.grown hg h.hk.size (fun k hk => by have := hB k hk; omega)).setCell (by show _ ≤ gs; omega) _, (h.hz.grown hg (hne _ (by omega))).other _ (by simp; omega) _, (h.h4.grown hg (hne _ (by omega))).other _ (by simp; omega) _, (h.hh.grown hg (hne _ q3)).set i v', hO.grown hst (fun k hk e => by cases hk; have := hO.lt gs e; omega), fun p hp => ?_, q0, q1, q2, q3, Nat.le_trans h.hB (Nat.le_trans hg.size hst.size)⟩
  have hp1 := (h.hfx p hp).1.grown hg (fun k hk e => by have := hB k hk; have := (h.hfx p hp).2 k e; omega)
  exact ⟨hp1.off hst (h.hh.grown hg (hne _ q3)) (by decide), (h.hfx p hp).2⟩
end
/-- a list of one number -/
def OneN (x : Nat) : Ty := fun v w => ∃ g, v = .slice (some ⟨g, 0, none⟩) 1 1 ∧ RowOf u64c 1 w v [x]
theorem OneN.mono (x : Nat) : Mono (OneN x) := fun _ _ _ ⟨g, h1, h2⟩ hb => ⟨g, h1, RowOf.kept h2 hb⟩
theorem stc_setS {t : Hd} (k : t.Ok) (vs vn v : Value) : (hdcs t ++ [vs, vn]).set 204 v = hdcs t ++ [v, vn] := by rw [List.set_append_right _ _ (by rw [hdcs_len k]; omega), hdcs_len k]; rfl
theorem stc_setN {t : Hd} (k : t.Ok) (vs vn v : Value) : (hdcs t ++ [vs, vn]).set 205 v = hdcs t ++ [vs, v] := by rw [List.set_append_right _ _ (by rw [hdcs_len k]; omega), hdcs_len k]; rfl
theorem there_blk {e : TypeId} {w : World} {g : Nat} {cs : List Value} (h : Blk e w g cs) (o n : Nat) (hn : o + n ≤ cs.length) : w.there g o n := fun j hj => ⟨by rw [h.cell, List.getElem?_eq_getElem (by omega)]; rfl, h.free _⟩
set_option maxHeartbeats 4000000 in
set_option maxRecDepth 100000 in
theorem creadS_good (a : Option Addr) (L c : Nat) (b : List UInt8) (hL : b.length = L) (hLs : L ≤ 1048576) (hE : decE b = 0) (h3 : kidsN (decP b) = 3) (w : World) (h : Bytes w (.slice a L c) b) : Calls Try.prog 21 #[.slice a L c] w (ReadS b w) := by
  have hbe := dec_enc hE
  have hz : Blk 38 (w.alloc (.cells Try.zeroCells38 38)) w.heap.size zst := by rw [zcSt]; exact Blk.new w _ _
  have hbel : Below w.heap.size w (w.alloc (.cells Try.zeroCells38 38)) := (Below.refl _ _).alloc (Nat.le_refl _) _
  have hlt0 := hz.lt
  have cc := fun u (hu : Bytes u (.slice a L c) b) => pdecode_any a L c b hL hLs u hu
  rw [hE] at cc
  have C := Lib.hid cc
  have H3 := Lib.hid h3
  have hle : (encP (decP b)).length ≤ 1048576 := by rw [← hbe, hL]; exact hLs
  have Hle := Lib.hid hle
  have hl206 := zst_len
  clear cc hE h3 hL hLs hbe hle
  go_enter Try.func21, Try.ntmps21
  go_wp2_with (first
    | (go_at_call 77; (with_reducible refine (C.out _ (h.alloc _)).mono ?_); rintro e w1 ⟨it, rfl, b1, hF, hbare, he⟩; have hz1 := hz.kept b1; have hbel1 := Below.then hbel b1; have hs1 := Nat.lt_of_lt_of_le hlt0 b1.size; obtain ⟨l, tv, t, kv, ks⟩ := it; obtain ⟨k0, k1, k2, hks, hp, hb0, hb1, hb2⟩ := kids3 hbare he H3.out; change ks = _ at hks; subst hks; obtain ⟨ta, tc, rfl, _, _⟩ := hF.is.inv.1.form; obtain ⟨ka, kc, rfl, _, _⟩ := hF.is.inv.2.1.form; have hI1 := hF.is; simp only [icells, List.length_cons, List.length_nil, Nat.reduceAdd] at hI1 ⊢; obtain ⟨bk, ok, l0, ta0, tn0, tc0, t0, ka0, kn0, kc0, l1, ta1, tn1, tc1, t1, ka1, kn1, kc1, ks1, l2, ta2, tn2, tc2, t2, ka2, kn2, kc2, ks2, rfl, ht0, hl0, hk1, hl1, hk2, hl2, q0, q1, q2, hall⟩ := kids_facts hI1 hp hb0 hb1 hb2 Hle.out; have HA := Lib.hid hall; have Q0 := Lib.hid q0; have Q1 := Lib.hid q1; have Q2 := Lib.hid q2; clear hF hbare he hp hb0 hb1 hb2 hall q0 q1 q2 hI1)
    | ((with_reducible show wpList _ _ _ (⟨none, Op.store _ _ (Operand.tmp 14), _, _, _, _⟩ :: _) _ _); refine wpList_storeA (o := ⟨none, _, _, _, _, _⟩) (by rfl) 128 (.tmp 4) (.tmp 14) (by rfl) w1.heap.size [.bool l, .slice ta t.length tc, .slice (some ⟨bk, ok, none⟩) 3 kc] (by rfl) (by rfl) aggItem (Blk.new w1 128 [.bool false, .slice none 0 0, .slice none 0 0]) (by rfl) (by rfl) (by intro u hu; simp at hu; rcases hu with rfl | rfl | rfl <;> rfl) (((Below.refl w1.heap.size w1).alloc (Nat.le_refl _) (.cells #[.bool false, .slice none 0 0, .slice none 0 0] 128))) (Nat.le_refl _) ?_; intro w4 h4 b4 _; have hz4 := (hz1.kept b4).alloc (.cells Try.zeroCells38 38); have hbel4 := (Below.then hbel1 b4).alloc (Below.then hbel1 b4).size (.cells Try.zeroCells38 38); have b4A := b4.alloc b4.size (.cells Try.zeroCells38 38); have c42 : w4.cell? ⟨w1.heap.size, 2, none⟩ = some (.slice (some ⟨bk, ok, none⟩) 3 kc) := h4.cell 2; obtain ⟨rg0, rg1, rg2, bt0, _, _⟩ := HA.out _ b4A; have ct : (w4.alloc (.cells Try.zeroCells38 38)).cell? ⟨bk, ok + 1, none⟩ = some (.slice ta0 tn0 tc0) := rg0 1 _ rfl; have h4A := h4.alloc (.cells Try.zeroCells38 38); have hS4 : Blk 38 (w4.alloc (.cells Try.zeroCells38 38)) w4.heap.size zst := (by rw [zcSt]; exact Blk.new w4 _ _); have c42A : (w4.alloc (.cells Try.zeroCells38 38)).cell? ⟨w1.heap.size, 2, none⟩ = some (.slice (some ⟨bk, ok, none⟩) 3 kc) := h4A.cell 2)
    | (go_at_call 15; (with_reducible refine (bread_any ta0 tn0 tc0 t0 ht0 hl0 _ bt0).mono ?_); rintro e w5 ⟨H, E, rfl, hH, hR, b5⟩; have hz5 := hz4.kept b5; have hbel5 := Below.then hbel4 b5; have b15 := b4A.trans (b5.mono b4A.size); have h45 := h4A.kept b5; have hS5 := hS4.kept b5; have hlH := hdcs_len hH; have hth := there_blk hS5 0 204 (by rw [zst_len]; omega))
    | ((with_reducible show wpList _ _ _ (⟨none, Op.store _ _ (Operand.tmp 32), _, _, _, _⟩ :: _) _ _); refine wpList_store_mid (op := ⟨none, _, _, _, _, _⟩) (by rfl) 28 (.tmp 34) (.tmp 32) (by rfl) w4.heap.size 0 (hdcs H).toArray (by rfl) (by rfl) (by rw [show (hdcs H).toArray.size = 204 from by rw [List.size_toArray, hlH]]; exact hth) (by rw [show (hdcs H).toArray.size = 204 from by rw [List.size_toArray, hlH]]; kernel_rfl) (all_oneCell_toArray (hdcs_one H)) ?_; refine pauseX ?_))
  unfold PauseX
  try simp only [List.toList_toArray]
  have g6 : w5.grownBy (w5.setCells w4.heap.size 0 (hdcs H)) (some w4.heap.size) := grown_sets (hdcs H) 0 ⟨rfl, rfl, rfl, Nat.le_refl _, fun _ _ _ => rfl⟩
  have hS6 := Blk.sets (hdcs H) 0 hS5
  rw [setsL_zst hH] at hS6
  have hsz4 := b4.size
  have hlt4 := h4.lt
  have hz6 := hz5.grown g6 (by intro e; injection e; omega)
  have hbel6 := hbel5.grown g6 hbel5.size (fun k hk => by cases hk; omega)
  have b16 := b15.grown g6 b15.size (fun k hk => by cases hk; omega)
  have h46 := h45.grown g6 (by intro e; injection e; omega)
  generalize (w5.setCells w4.heap.size 0 (hdcs H)) = w6 at *
  obtain ⟨s, hs⟩ : ∃ s, s = (ks1.map itt).map nfR := ⟨_, rfl⟩
  obtain ⟨n, hn⟩ : ∃ n, n = (ks2.map itt).map nfR := ⟨_, rfl⟩
  have eT : rdC nfR H (decP b) = ⟨H, s, n⟩ := by unfold rdC; rw [Q1.out, Q2.out, ← hs, ← hn]
  have hTok : (⟨H, s, n⟩ : Sto).Ok := by
    refine ⟨hH, fun x hx => ?_, fun x hx => ?_, ?_, ?_⟩
    · change x ∈ s at hx
      rw [hs] at hx
      obtain ⟨_, _, rfl⟩ := List.mem_map.1 hx
      exact nfR_lt _
    · change x ∈ n at hx
      rw [hn] at hx
      obtain ⟨_, _, rfl⟩ := List.mem_map.1 hx
      exact nfR_lt _
    · show s.length ≤ _
      rw [hs, List.length_map, List.length_map]; omega
    · show n.length ≤ _
      rw [hn, List.length_map, List.length_map]; omega
  have hE01 : E = 0 ∨ E = 1 := by rcases hR with ⟨h, _⟩ | ⟨h, _⟩ <;> simp [h]
  have hno : (E ≠ 0 ∨ wC ⟨H, s, n⟩ ≠ b) → RdC b zSto 1 := fun hb => rdC_not nfR_num hH (by rw [Q0.out]; exact hR) (by rw [eT]; exact hb)
  have Hno := Lib.hid hno
  have HTok := Lib.hid hTok
  have Hs := Lib.hid hs
  have Hn := Lib.hid hn
  have G1 : CrW w w1 w1.heap.size w4.heap.size (w4.heap.size + 1) [.bool l, .slice ta t.length tc, .slice (some ⟨bk, ok, none⟩) 3 kc] (hdcs H ++ [Value.slice none 0 0, Value.slice none 0 0]) [] (.slice none 0 0) [] w6 := ⟨hbel6, b16, hz6, h46, hS6, OwnOf.nil u64c 1 _ _ _, by simp, hs1, Nat.le_refl _, hlt4, Nat.lt_succ_self _, hS6.lt⟩
  obtain ⟨g4, hg4⟩ : ∃ g, g = w1.heap.size := ⟨_, rfl⟩
  obtain ⟨gs, hgs⟩ : ∃ g, g = w4.heap.size := ⟨_, rfl⟩
  rw [← hg4, ← hgs] at G1
  rw [← hg4, ← hgs]
  clear hz hbel hlt0 C H3 Hle b1 hz1 hbel1 hs1 Q0 Q1 Q2 h4 b4 hz4 hbel4 b4A c42 rg0 rg1 rg2 bt0 ct h4A hS4 c42A b5 hz5 hbel5 b15 h45 hS5 hth g6 hS6 hsz4 hlt4 hz6 hbel6 b16 h46 eT hTok hno hs hn hg4 hgs hR
  rcases hE01 with rfl | rfl
  rotate_left
  · go_wp2_with (first
      | ((with_reducible show wpList _ _ _ (⟨none, Op.store _ _ (Operand.tmp 37), _, _, _, _⟩ :: _) _ _); refine wpList_storeA (o := ⟨none, _, _, _, _, _⟩) (by rfl) 38 (.tmp 2) (.tmp 37) (by rfl) w.heap.size zst (by rfl) (by first | rfl | exact congrArg Value.agg zcSt) aggSt G1.hz hl206 hl206 zst_one G1.hb (Nat.le_refl _) ?_; intro w7 hh7 hbel7 _))
    exact bodyPost_ret (v := .tuple #[.agg zst.toArray, .int .i64 1]) (results_blk_tmp rfl _ _ w.heap.size aggSt hh7 hl206 rfl rfl) rfl (ReadS.zero (Hno.out (.inl (by simp))) hbel7)
  have k42 : w6.cell? ⟨g4, 2, none⟩ = some (.slice (some ⟨bk, ok, none⟩) 3 kc) := G1.h4.cell 2
  obtain ⟨_, rg1, _, _, i1, _⟩ := HA.out w6 G1.hk
  have ck : w6.cell? ⟨bk, ok + 3 + 2, none⟩ = some (.slice ka1 kn1 kc1) := rg1 2 _ rfl
  go_wp2_with fail
  clear k42 rg1 i1 ck
  try simp only [Act.put]
  go_loopw [44] (fun ix wr => ∃ (i : Nat) (v : Value), i ≤ kn1 ∧ ix = .int .i64 (i : Int) ∧ CrW w w1 g4 gs (gs + 1) [.bool l, .slice ta t.length tc, .slice (some ⟨bk, ok, none⟩) 3 kc] (hdcs H ++ [v, Value.slice none 0 0]) [] v (((ks1.map itt).take i).map nfR) wr) (fun ix _ => kn1 - (intOf ix).toNat)
  case atStart => exact ⟨0, .slice none 0 0, by omega, rfl, G1⟩
  case round =>
    clear G1
    obtain ⟨i, lv, hin, rfl, G⟩ := hrel
    have hpl : (((ks1.map itt).take i).map nfR).length = i := by
      simp only [List.length_map, List.length_take, hk1]; omega
    obtain ⟨la, lc, rfl, _⟩ := G.hO.form' i hpl
    have Hpl := Lib.hid hpl
    clear hpl
    by_cases hlt : i < kn1
    · have hii : (i : Int) < (kn1 : Int) := by omega
      have hl1 : i < ks1.length := by rw [hk1]; exact hlt
      have hIt := (HA.out wr G.hk).2.2.2.2.1
      have hrow := hIt.inv.2.1
      have hkids := hIt.inv.2.2
      obtain ⟨b2, off2, rfl, hr⟩ := RowOf.range icells_len hrow i hl1
      have hI0 := hkids _ (List.getElem_mem hl1)
      have hnext : (ks1.map itt).take (i + 1) = (ks1.map itt).take i ++ [itt ks1[i]] := by
        rw [List.take_succ_eq_append_getElem (by rw [List.length_map]; exact hl1), List.getElem_map]
      obtain ⟨kid, hkid⟩ : ∃ x, x = ks1[i] := ⟨_, rfl⟩
      rw [← hkid] at hr hI0 hnext
      obtain ⟨lq, tvq, tq, kvq, ksq⟩ := kid
      obtain ⟨taq, tcq, rfl, _, _⟩ := hI0.inv.1.form
      obtain ⟨kaq, kcq, rfl, _, _⟩ := hI0.inv.2.1.form
      have hbq : Bytes wr (.slice taq tq.length tcq) tq := hI0.inv.1
      obtain ⟨knq, hknq⟩ : ∃ knq, knq = ksq.length := ⟨_, rfl⟩
      rw [← hknq] at hr
      change wr.rangeAt b2 (off2 + i * 3) [.bool lq, .slice taq tq.length tcq, .slice kaq knq kcq] at hr
      change (ks1.map itt).take (i + 1) = (ks1.map itt).take i ++ [tq] at hnext
      have Hnext := Lib.hid hnext
      obtain ⟨wa, hwa⟩ : ∃ wa, wa = wr.alloc (.cells #[.bool lq, .slice taq tq.length tcq, .slice kaq knq kcq] 128) := ⟨_, rfl⟩
      have bA : Below wr.heap.size wr wa := by rw [hwa]; exact (Below.refl _ _).alloc (Nat.le_refl _) _
      have zA : Blk 128 wa wr.heap.size [.bool lq, .slice taq tq.length tcq, .slice kaq knq kcq] := by rw [hwa]; exact Blk.new wr _ [.bool lq, .slice taq tq.length tcq, .slice kaq knq kcq]
      have GA := G.kept bA
      have k1 := fun u : Ext wa => u.cell ((GA.hh.cell 204).trans (stc_s HTok.out.hd _ _))
      have k2 := fun u : Ext wa => u.cell ((zA.cell 1).trans (show _ = some (Value.slice taq tq.length tcq) from rfl))
      obtain ⟨N, hN⟩ : ∃ N, N = numL (last32 tq) := ⟨_, rfl⟩
      have Rw : Hid (∀ u, Below wa.heap.size wa u → Calls Try.prog 78 #[.slice taq tq.length tcq] u fun e w' => e = .returned (.agg (wcs N).toArray) ∧ Below u.heap.size u w') := Lib.hid (fun u hu => by rw [hN]; exact wread_any taq tcq tq u (RowOf.below (f := b8) (size := 1) hbq (Below.then bA hu)))
      have hnf : nfR tq = lim N 0 := by rw [hN]; rfl
      have Hnf := Lib.hid hnf
      have x0 := fun u => idx0w N u
      have Hwa := Lib.hid hwa
      obtain ⟨tnq, htnq⟩ : ∃ tnq, tnq = tq.length := ⟨_, rfl⟩
      clear hkid hI0 hIt hrow hkids hknq hnext hl1 hN hnf hbq hwa htnq
      go_wp2_with (first
        | (refine wpList_load_mid (op := ⟨some 47, _, _, _, _, _⟩) (by rfl) 128 (.tmp 46) (by rfl) b2 (off2 + i * 3) (by rfl) [.bool lq, .slice taq tq.length tcq, .slice kaq knq kcq] _ hr Try.underlying128 rfl (by kernel_rfl) ?_))
      rw [← Hwa.out]
      refine wp_region_typed wa 7 (by kernel_rfl) (by kernel_rfl) (Below.refl _ _) ?_; simp only [List.take_succ_cons, List.take_zero, List.take_nil]
      iterate 4 (refine wpX_step (by rfl) (fun K hK => ?_); go_simp; first | (refine hK _ ?_; clear hK K) | (apply Exists.intro; refine ⟨fun _ => ?_, hK _ ?_⟩; fail; clear hK K))
      (refine wpX_step (by rfl) (fun K hK => ?_); go_simp; first | (refine hK _ ?_; clear hK K) | (apply Exists.intro; refine ⟨fun _ => ?_, hK _ ?_⟩; exact Rw.out _ (Subtype.property _); clear hK K))
      (refine wpX_step (by rfl) (fun K hK => ?_); go_simp; first | (refine hK _ ?_; clear hK K) | (apply Exists.intro; refine ⟨fun _ => ?_, hK _ ?_⟩; fail; clear hK K))
      refine wpX_rel 54 (OneN (lim N 0)) rfl (of_decide_eq_true rfl) (OneN.mono _) (fun w2 hw2 => ?_) ?_
      · simp only [relOf, List.filter_nil, forallRel]
        refine ⟨rfl, ?_⟩
        go_simp
        exact ⟨(Below.refl _ _).alloc (Nat.le_refl _) _, w2.heap.size, rfl, Row.built (f := u64c) (size := 1) (fun _ => rfl) w2 24 [lim N 0] 1 rfl (by unfold maxLen; omega)⟩
      refine wpX_nil ?_
      intro u2 hb2 v54 h54
      change wpList _ _ _ [_, _, _] _ _
      obtain ⟨g54, rfl, r54⟩ := h54
      have F2 := GA.kept hb2
      have hBs := F2.hB
      clear k1 k2 x0 Rw zA GA G hr
      simp only [Act.put, List.setIfInBounds_toArray, List.set_cons_zero, List.set_cons_succ]
      go_wp2_with (refine wpList_appB (o := ⟨some 55, _, _, _, _, _⟩) (by rfl) (.tmp 49) (.tmp 54) 36 (by rfl) elN (by intro u hu; simp [u64c] at hu; subst hu; rfl) (by rfl) F2.hO (by rfl) r54 hBs (by rw [Hpl.out]; simp; omega) (by rw [Hpl.out]; unfold maxLen; simp; omega) ?_; intro v8 w8 hO8 gg8 _; obtain ⟨la8, lc8, rfl, _⟩ := hO8.form' (i + 1) (by rw [List.length_append, Hpl.out]; rfl); have F5 := F2.grew gg8 hO8 204; rw [stc_setS HTok.out.hd] at F5; have hng : (Value.slice la i lc).ownBlock ≠ some gs := fun e => (by have := F2.hO.lt gs e; have := F2.h3; omega); obtain ⟨y8, hy8⟩ := (F2.hh.grown gg8 hng).has 204 (by rw [stc_len HTok.out.hd]; omega); have hf8 := (F2.hh.grown gg8 hng).free 204)
      go_roundw
      case rel => exact ⟨i + 1, .slice la8 (i + 1) lc8, by omega, by go_num, by rw [Hnext.out, List.map_append, List.map_cons, List.map_nil, Hnf.out]; exact F5⟩
      case measure => simp [intOf]; omega
    · obtain rfl : kn1 = i := by omega
      rw [List.take_of_length_le (by rw [List.length_map, hk1]; exact Nat.le_refl _)] at G
      rw [← Hs.out] at G
      have hss : s.length ≤ 1048576 := HTok.out.sl
      obtain ⟨wq, hwq⟩ : ∃ x, x = wr := ⟨wr, rfl⟩
      rw [← hwq] at G
      rw [← hwq]
      clear hwq
      have hgl := G.hh.lt
      have G2 : CrW w w1 g4 gs wq.heap.size [.bool l, .slice ta t.length tc, .slice (some ⟨bk, ok, none⟩) 3 kc] (hdcs H ++ [.slice la kn1 lc, Value.slice none 0 0]) [(.slice la kn1 lc, s)] (.slice none 0 0) [] wq := ⟨G.hb, G.hk, G.hz, G.h4, G.hh, OwnOf.nil u64c 1 _ _ _, fun p hp => by rw [List.mem_singleton] at hp; subst hp; exact ⟨G.hO.lower (Nat.zero_le _), fun k hk => own_ltK G.hO hk⟩, G.h0, G.h1, G.h2, hgl, Nat.le_refl _⟩
      have k42 : wq.cell? ⟨g4, 2, none⟩ = some (.slice (some ⟨bk, ok, none⟩) 3 kc) := G.h4.cell 2
      obtain ⟨_, _, rg2, _, _, _⟩ := HA.out wq G.hk
      have ck : wq.cell? ⟨bk, ok + 6 + 2, none⟩ = some (.slice ka2 kn2 kc2) := rg2 2 _ rfl
      go_wp2_with fail
      clear k42 rg2 ck G Hpl hin hlt
      try simp only [Act.put]
      go_loopw [64] (fun ix wr => ∃ (i : Nat) (v : Value), i ≤ kn2 ∧ ix = .int .i64 (i : Int) ∧ CrW w w1 g4 gs wq.heap.size [.bool l, .slice ta t.length tc, .slice (some ⟨bk, ok, none⟩) 3 kc] (hdcs H ++ [.slice la kn1 lc, v]) [(.slice la kn1 lc, s)] v (((ks2.map itt).take i).map nfR) wr) (fun ix _ => kn2 - (intOf ix).toNat)
      case atStart => exact ⟨0, .slice none 0 0, by omega, rfl, G2⟩
      case round =>
        clear G2
        obtain ⟨i, lv, hin, rfl, G⟩ := hrel
        have hpl : (((ks2.map itt).take i).map nfR).length = i := by
          simp only [List.length_map, List.length_take, hk2]; omega
        obtain ⟨lb, ld, rfl, _⟩ := G.hO.form' i hpl
        have Hpl := Lib.hid hpl
        clear hpl
        by_cases hlt : i < kn2
        · have hii : (i : Int) < (kn2 : Int) := by omega
          have hl1 : i < ks2.length := by rw [hk2]; exact hlt
          have hIt := (HA.out wr G.hk).2.2.2.2.2
          have hrow := hIt.inv.2.1
          have hkids := hIt.inv.2.2
          obtain ⟨b2, off2, rfl, hr⟩ := RowOf.range icells_len hrow i hl1
          have hI0 := hkids _ (List.getElem_mem hl1)
          have hnext : (ks2.map itt).take (i + 1) = (ks2.map itt).take i ++ [itt ks2[i]] := by
            rw [List.take_succ_eq_append_getElem (by rw [List.length_map]; exact hl1), List.getElem_map]
          obtain ⟨kid, hkid⟩ : ∃ x, x = ks2[i] := ⟨_, rfl⟩
          rw [← hkid] at hr hI0 hnext
          obtain ⟨lq, tvq, tq, kvq, ksq⟩ := kid
          obtain ⟨taq, tcq, rfl, _, _⟩ := hI0.inv.1.form
          obtain ⟨kaq, kcq, rfl, _, _⟩ := hI0.inv.2.1.form
          have hbq : Bytes wr (.slice taq tq.length tcq) tq := hI0.inv.1
          obtain ⟨knq, hknq⟩ : ∃ knq, knq = ksq.length := ⟨_, rfl⟩
          rw [← hknq] at hr
          change wr.rangeAt b2 (off2 + i * 3) [.bool lq, .slice taq tq.length tcq, .slice kaq knq kcq] at hr
          change (ks2.map itt).take (i + 1) = (ks2.map itt).take i ++ [tq] at hnext
          have Hnext := Lib.hid hnext
          obtain ⟨wa, hwa⟩ : ∃ wa, wa = wr.alloc (.cells #[.bool lq, .slice taq tq.length tcq, .slice kaq knq kcq] 128) := ⟨_, rfl⟩
          have bA : Below wr.heap.size wr wa := by rw [hwa]; exact (Below.refl _ _).alloc (Nat.le_refl _) _
          have zA : Blk 128 wa wr.heap.size [.bool lq, .slice taq tq.length tcq, .slice kaq knq kcq] := by rw [hwa]; exact Blk.new wr _ [.bool lq, .slice taq tq.length tcq, .slice kaq knq kcq]
          have GA := G.kept bA
          have k1 := fun u : Ext wa => u.cell ((GA.hh.cell 205).trans (stc_n HTok.out.hd _ _))
          have k2 := fun u : Ext wa => u.cell ((zA.cell 1).trans (show _ = some (Value.slice taq tq.length tcq) from rfl))
          obtain ⟨N, hN⟩ : ∃ N, N = numL (last32 tq) := ⟨_, rfl⟩
          have Rw : Hid (∀ u, Below wa.heap.size wa u → Calls Try.prog 78 #[.slice taq tq.length tcq] u fun e w' => e = .returned (.agg (wcs N).toArray) ∧ Below u.heap.size u w') := Lib.hid (fun u hu => by rw [hN]; exact wread_any taq tcq tq u (RowOf.below (f := b8) (size := 1) hbq (Below.then bA hu)))
          have hnf : nfR tq = lim N 0 := by rw [hN]; rfl
          have Hnf := Lib.hid hnf
          have x0 := fun u => idx0w N u
          have Hwa := Lib.hid hwa
          obtain ⟨tnq, htnq⟩ : ∃ tnq, tnq = tq.length := ⟨_, rfl⟩
          clear hkid hI0 hIt hrow hkids hknq hnext hl1 hN hnf hbq hwa htnq
          go_wp2_with (first
            | (refine wpList_load_mid (op := ⟨some 67, _, _, _, _, _⟩) (by rfl) 128 (.tmp 66) (by rfl) b2 (off2 + i * 3) (by rfl) [.bool lq, .slice taq tq.length tcq, .slice kaq knq kcq] _ hr Try.underlying128 rfl (by kernel_rfl) ?_))
          rw [← Hwa.out]
          refine wp_region_typed wa 7 (by kernel_rfl) (by kernel_rfl) (Below.refl _ _) ?_; simp only [List.take_succ_cons, List.take_zero, List.take_nil]
          iterate 4 (refine wpX_step (by rfl) (fun K hK => ?_); go_simp; first | (refine hK _ ?_; clear hK K) | (apply Exists.intro; refine ⟨fun _ => ?_, hK _ ?_⟩; fail; clear hK K))
          (refine wpX_step (by rfl) (fun K hK => ?_); go_simp; first | (refine hK _ ?_; clear hK K) | (apply Exists.intro; refine ⟨fun _ => ?_, hK _ ?_⟩; exact Rw.out _ (Subtype.property _); clear hK K))
          (refine wpX_step (by rfl) (fun K hK => ?_); go_simp; first | (refine hK _ ?_; clear hK K) | (apply Exists.intro; refine ⟨fun _ => ?_, hK _ ?_⟩; fail; clear hK K))
          refine wpX_rel 74 (OneN (lim N 0)) rfl (of_decide_eq_true rfl) (OneN.mono _) (fun w2 hw2 => ?_) ?_
          · simp only [relOf, List.filter_nil, forallRel]
            refine ⟨rfl, ?_⟩
            go_simp
            exact ⟨(Below.refl _ _).alloc (Nat.le_refl _) _, w2.heap.size, rfl, Row.built (f := u64c) (size := 1) (fun _ => rfl) w2 24 [lim N 0] 1 rfl (by unfold maxLen; omega)⟩
          refine wpX_nil ?_
          intro u2 hb2 v54 h54
          change wpList _ _ _ [_, _, _] _ _
          obtain ⟨g54, rfl, r54⟩ := h54
          have F2 := GA.kept hb2
          have hBs := F2.hB
          clear k1 k2 x0 Rw zA GA G hr
          simp only [Act.put, List.setIfInBounds_toArray, List.set_cons_zero, List.set_cons_succ]
          go_wp2_with (refine wpList_appB (o := ⟨some 75, _, _, _, _, _⟩) (by rfl) (.tmp 69) (.tmp 74) 36 (by rfl) elN (by intro u hu; simp [u64c] at hu; subst hu; rfl) (by rfl) F2.hO (by rfl) r54 hBs (by rw [Hpl.out]; simp; omega) (by rw [Hpl.out]; unfold maxLen; simp; omega) ?_; intro v8 w8 hO8 gg8 _; obtain ⟨la8, lc8, rfl, _⟩ := hO8.form' (i + 1) (by rw [List.length_append, Hpl.out]; rfl); have F5 := F2.grew gg8 hO8 205; rw [stc_setN HTok.out.hd] at F5; have hng : (Value.slice lb i ld).ownBlock ≠ some gs := fun e => (by have := F2.hO.lt gs e; have := F2.h3; omega); obtain ⟨y8, hy8⟩ := (F2.hh.grown gg8 hng).has 205 (by rw [stc_len HTok.out.hd]; omega); have hf8 := (F2.hh.grown gg8 hng).free 205)
          go_roundw
          case rel => exact ⟨i + 1, .slice la8 (i + 1) lc8, by omega, by go_num, by rw [Hnext.out, List.map_append, List.map_cons, List.map_nil, Hnf.out]; exact F5⟩
          case measure => simp [intOf]; omega
        · obtain rfl : kn2 = i := by omega
          rw [List.take_of_length_le (by rw [List.length_map, hk2]; exact Nat.le_refl _)] at G
          rw [← Hn.out] at G
          have hlT := stc_len HTok.out.hd (.slice la kn1 lc) (.slice lb kn2 ld)
          have o1 := (G.hfx _ List.mem_cons_self).1
          have o2 := G.hO.lower (Nat.zero_le _)
          have Wr := Lib.hid (fun u (hu : Below wr.heap.size wr u) => ccwrite_any ⟨H, s, n⟩ HTok.out (.slice la kn1 lc) (.slice lb kn2 ld) u (o1.row.below hu) (o2.row.below hu))
          obtain ⟨WB, hWB⟩ : ∃ WB, WB = wC ⟨H, s, n⟩ := ⟨_, rfl⟩
          have hyes : (WB == b) = true → RdC b ⟨H, s, n⟩ 0 := fun e => .inl ⟨rfl, by rw [← hWB]; simpa using e⟩
          have hnot : (WB == b) = false → RdC b zSto 1 := fun e => Hno.out (.inr (by rw [← hWB]; simpa using e))
          rw [← hWB] at Wr
          have Wr2 := Wr
          have c1 := fun u : Ext wr => run_str (P := Try.prog) (src := 29) (dst := 9) elU8.ht (by kernel_rfl) (by kernel_rfl) (RowOf.below (f := b8) (size := 1) h (Below.then G.hb u.bel))
          have Ra := Lib.hid (Blk.all0 G.hh)
          have Hyes := Lib.hid hyes
          have Hnot := Lib.hid hnot
          clear Wr hWB hyes hnot
          obtain ⟨r, hr⟩ : ∃ r, r = (WB == b) := ⟨_, rfl⟩
          have hr2 : (WB != b) = !r := by rw [hr]; rfl
          have Hr := Lib.hid hr
          cases r with
          | true =>
            simp only [Bool.not_true] at hr2
            have hr1 := hr.symm
            clear hr
            go_wp2_with fail
            refine wp_region_typed wr 6 (by kernel_rfl) (by kernel_rfl) (Below.refl _ _) ?_; simp only [List.take_succ_cons, List.take_zero, List.take_nil]
            (refine wpX_step (by rfl) (fun K hK => ?_); rw [if_pos (by rfl)]; refine ⟨_, fun u => const_loadm _ (.tmp 6) (by rfl) _ _ (by rfl) aggSt hlT (rangeAt.ext Ra.out u), hK _ ?_⟩; clear hK K; simp only [Act.put, List.setIfInBounds_toArray, List.set_cons_zero, List.set_cons_succ])
            refine wpX_rel 79 (TxB 0 WB) rfl (of_decide_eq_true rfl) (TxB.mono _ _) (fun w2 hw2 => ?_) ?_
            · simp only [relOf, List.filter_nil, forallRel]
              refine ⟨rfl, ?_⟩
              go_simp
              refine (Wr2.out w2 hw2).mono ?_
              rintro e w3 ⟨v, rfl, o3, b3⟩
              exact ⟨v, rfl, ⟨o3, fun _ _ => Nat.zero_le _⟩, b3⟩
            refine wpX_eq (str WB) (fun w2 hw2 => ?_) ?_
            · change forallRel w2 [(79, _)] _ _
              intro v99 h99
              simp only [forallRel]
              refine ⟨rfl, ?_⟩
              have c99 := run_str (P := Try.prog) (src := 29) (dst := 9) elU8.ht (by kernel_rfl) (by kernel_rfl) h99.1
              go_simp
              exact Below.refl _ _
            iterate 3 (refine wpX_step (by rfl) (fun K hK => ?_); go_simp; first | (refine hK _ ?_; clear hK K) | (apply Exists.intro; refine ⟨fun _ => ?_, hK _ ?_⟩; fail; clear hK K))
            refine wpX_nil ?_
            intro z3 hz3 v99 h99
            have F7 := G.kept hz3
            have hzz := F7.hz
            have hhh := F7.hh
            have o13 := o1.kept hz3
            have o23 := o2.kept hz3
            clear h99 c1 G
            change forallRel z3 [] _ _
            simp only [forallRel, List.drop_succ_cons, List.drop_zero, List.drop_nil]
            try simp only [Act.put, List.setIfInBounds_toArray, List.set_cons_zero, List.set_cons_succ]
            go_wp2_with (first
              | (refine wpList_loadA (o := ⟨some 85, _, _, _, _, _⟩) (by rfl) 38 (.tmp 6) (by rfl) gs (by rfl) aggSt hhh hlT ?_)
              | ((with_reducible show wpList _ _ _ (⟨none, Op.store _ _ (Operand.tmp 85), _, _, _, _⟩ :: _) _ _); refine wpList_storeA (o := ⟨none, _, _, _, _, _⟩) (by rfl) 38 (.tmp 2) (.tmp 85) (by rfl) w.heap.size (hdcs H ++ [.slice la kn1 lc, .slice lb kn2 ld]) (by rfl) (by rfl) aggSt hzz hlT hl206 (stc_one _ _ _ _ _ _ _) F7.hb (Nat.le_refl _) ?_; intro w5 hh5 hbel5 gg5; have f3 := (o13.off gg5 hzz (by decide)).row; have f4 := (o23.off gg5 hzz (by decide)).row))
            exact bodyPost_ret (v := .tuple #[.agg (hdcs H ++ [Value.slice la kn1 lc, Value.slice lb kn2 ld]).toArray, .int .i64 0]) (results_blk_tmp rfl _ _ w.heap.size aggSt hh5 hlT rfl rfl) rfl ⟨⟨H, s, n⟩, 0, _, _, rfl, HTok.out, Hyes.out Hr.out.symm, f3, f4, hbel5⟩
          | false =>
            simp only [Bool.not_false] at hr2
            have hr1 := hr.symm
            clear hr
            go_wp2_with fail
            refine wp_region_typed wr 6 (by kernel_rfl) (by kernel_rfl) (Below.refl _ _) ?_; simp only [List.take_succ_cons, List.take_zero, List.take_nil]
            (refine wpX_step (by rfl) (fun K hK => ?_); rw [if_pos (by rfl)]; refine ⟨_, fun u => const_loadm _ (.tmp 6) (by rfl) _ _ (by rfl) aggSt hlT (rangeAt.ext Ra.out u), hK _ ?_⟩; clear hK K; simp only [Act.put, List.setIfInBounds_toArray, List.set_cons_zero, List.set_cons_succ])
            refine wpX_rel 79 (TxB 0 WB) rfl (of_decide_eq_true rfl) (TxB.mono _ _) (fun w2 hw2 => ?_) ?_
            · simp only [relOf, List.filter_nil, forallRel]
              refine ⟨rfl, ?_⟩
              go_simp
              refine (Wr2.out w2 hw2).mono ?_
              rintro e w3 ⟨v, rfl, o3, b3⟩
              exact ⟨v, rfl, ⟨o3, fun _ _ => Nat.zero_le _⟩, b3⟩
            refine wpX_eq (str WB) (fun w2 hw2 => ?_) ?_
            · change forallRel w2 [(79, _)] _ _
              intro v99 h99
              simp only [forallRel]
              refine ⟨rfl, ?_⟩
              have c99 := run_str (P := Try.prog) (src := 29) (dst := 9) elU8.ht (by kernel_rfl) (by kernel_rfl) h99.1
              go_simp
              exact Below.refl _ _
            iterate 3 (refine wpX_step (by rfl) (fun K hK => ?_); go_simp; first | (refine hK _ ?_; clear hK K) | (apply Exists.intro; refine ⟨fun _ => ?_, hK _ ?_⟩; fail; clear hK K))
            refine wpX_nil ?_
            intro z3 hz3 v99 h99
            have F7 := G.kept hz3
            have hzz := F7.hz
            have hhh := F7.hh
            have o13 := o1.kept hz3
            have o23 := o2.kept hz3
            clear h99 c1 G
            change forallRel z3 [] _ _
            simp only [forallRel, List.drop_succ_cons, List.drop_zero, List.drop_nil]
            try simp only [Act.put, List.setIfInBounds_toArray, List.set_cons_zero, List.set_cons_succ]
            go_wp2_with (first
              | ((with_reducible show wpList _ _ _ (⟨none, Op.store _ _ (Operand.tmp 84), _, _, _, _⟩ :: _) _ _); refine wpList_storeA (o := ⟨none, _, _, _, _, _⟩) (by rfl) 38 (.tmp 2) (.tmp 84) (by rfl) w.heap.size zst (by rfl) (by first | rfl | exact congrArg Value.agg zcSt) aggSt hzz hl206 hl206 zst_one F7.hb (Nat.le_refl _) ?_; intro w5 hh5 hbel5 _))
            exact bodyPost_ret (v := .tuple #[.agg zst.toArray, .int .i64 1]) (results_blk_tmp rfl _ _ w.heap.size aggSt hh5 hl206 rfl rfl) rfl (ReadS.zero (Hnot.out Hr.out.symm) hbel5)
theorem creadS_any (a : Option Addr) (L c : Nat) (b : List UInt8) (hL : b.length = L) (hLs : L ≤ 1048576) (w : World) (h : Bytes w (.slice a L c) b) : Calls Try.prog 21 #[.slice a L c] w (ReadS b w) := by
  by_cases hE : decE b = 0
  · by_cases h3 : kidsN (decP b) = 3
    · exact creadS_good a L c b hL hLs hE h3 w h
    · exact creadS_bad2 a L c b hL hLs hE h3 w h
  · exact creadS_bad1 a L c b hL hLs hE w h
end Go.Proofs.Ytffkjjpjfehcnaa
