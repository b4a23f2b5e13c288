/- tx.Read: eight kids. -/
import Derived.Test.YtnhbfnegpjkojaaTx5
import Derived.Test.YtnhbfnegpjkojaaBuild0
import Derived.Deep.Cut
set_option linter.unusedSimpArgs false
set_option linter.unusedVariables false
namespace Go.Proofs.Ytnhbfnegpjkojaa
open Go.RowKit
set_option maxRecDepth 100000 in
theorem built_tx {t : Txd} (k : t.Ok) (da : Option Addr) (dn dc : Nat) : Try.prog.built 77 [(0, .agg (by8 t.frm).toArray), (1, .agg (by8 t.to).toArray), (2, .bool t.mkb), (3, .int .u64 (t.non : Int)), (4, .int .u64 (t.gas : Int)), (5, .int .u64 (t.pri : Int)), (6, .agg (wcs t.val).toArray), (7, .slice da dn dc)] = some (txcs t (.slice da dn dc)).toArray := by
  obtain ⟨frm, to, mkb, non, gas, pri, val, dat⟩ := t
  have h1 : frm.length = 8 := k.frm
  have h2 : to.length = 8 := k.to
  clear k
  match frm, h1 with
  | [a, b, c, d, e, f, g, h], _ =>
    match to, h2 with
    | [a', b', c', d', e', f', g', h'], _ => show _ = _; kernel_rfl
/-- what lies there -/
structure RxW (w w1 : World) (g4 g6 : Nat) (box cs : List Value) (u : World) : Prop where
  hb : Below w.heap.size w u
  hk : Below w1.heap.size w1 u
  hz : Blk 77 u w.heap.size (txcs zX (.slice none 0 0))
  h4 : Blk 156 u g4 box
  hn : Blk 47 u g6 cs
  h0 : w.heap.size < w1.heap.size
  h1 : w1.heap.size ≤ g4
  h2 : g4 < g6
theorem RxW.kept {w w1 u u' : World} {g4 g6 : Nat} {box cs : List Value} (h : RxW w w1 g4 g6 box cs u) (hb : Below u.heap.size u u') : RxW w w1 g4 g6 box cs u' :=
  ⟨Below.then h.hb hb, Below.then h.hk hb, h.hz.kept hb, h.h4.kept hb, h.hn.kept hb, h.h0, h.h1, h.h2⟩
theorem RxW.set {w w1 u : World} {g4 g6 : Nat} {box cs : List Value} (h : RxW w w1 g4 g6 box cs u) (i : Nat) (v : Value) : RxW w w1 g4 g6 box (cs.set i v) (u.setCell ⟨g6, i, none⟩ v) := by
  have h0 := h.h0
  have h1 := h.h1
  have h2 := h.h2
  exact ⟨h.hb.setCell (by show _ ≤ g6; omega) _, h.hk.setCell (by show _ ≤ g6; omega) _, h.hz.other _ (by simp; omega) _, h.h4.other _ (by simp; omega) _, h.hn.set i v, h0, h1, h2⟩
/-- the texts of the kids, and what they hang on -/
theorem kid_textsF {S : Nat → Prop} {w1 : World} {l : Bool} {tv : Value} {t : List UInt8} {ka : Option Addr} {n kc : Nat} {ks : List Itm} (hF : Fp S w1 (.mk l tv t (.slice ka n kc) ks)) (h0 : 0 < ks.length) : ∃ b off, ka = some ⟨b, off, none⟩ ∧ ∀ i, i < ks.length → ∃ ta tc,
    (∀ u, Below w1.heap.size w1 u → u.cell? ⟨b, off + i * 3 + 1, none⟩ = some (.slice ta ((ks.map itt)[i]?.getD []).length tc) ∧ Bytes u (.slice ta ((ks.map itt)[i]?.getD []).length tc) ((ks.map itt)[i]?.getD [])) ∧
    (∀ u, (∀ b, S b → b < w1.heap.size → u.heap[b]? = w1.heap[b]?) → Bytes u (.slice ta ((ks.map itt)[i]?.getD []).length tc) ((ks.map itt)[i]?.getD [])) := by
  have hrow := hF.is.inv.2.1
  have hkids := hF.is.inv.2.2
  obtain ⟨b, off, rfl, hc⟩ := RowOf.cells icells_len hrow 0 h0
  refine ⟨b, off, rfl, fun i hi => ?_⟩
  obtain ⟨b', off', e', hc⟩ := RowOf.cells icells_len hrow i hi
  simp only [Option.some.injEq, Addr.mk.injEq, and_true] at e'
  obtain ⟨rfl, rfl⟩ := e'
  have e : (ks.map itt)[i]?.getD [] = itt ks[i] := by rw [List.getElem?_map, List.getElem?_eq_getElem hi]; rfl
  rw [e]
  have hI := hkids _ (List.getElem_mem hi)
  have hU := fun u hu => (hF u hu).inv.2.2 _ (List.getElem_mem hi)
  obtain ⟨kid, hkid⟩ : ∃ x, x = ks[i] := ⟨_, rfl⟩
  rw [← hkid] at hI hU
  obtain ⟨l', tv', t', kv', kks⟩ := kid
  obtain ⟨ta, tc, rfl, _, _⟩ := hI.inv.1.form
  rw [← hkid]
  refine ⟨ta, tc, fun u hu => ⟨?_, RowOf.below (f := b8) (size := 1) hI.inv.1 hu⟩, fun u hu => (hU u hu).inv.1⟩
  obtain ⟨b', off', e', hc'⟩ := RowOf.cells icells_len (RowOf.below hrow hu) i hi
  simp only [Option.some.injEq, Addr.mk.injEq, and_true] at e'
  obtain ⟨rfl, rfl⟩ := e'
  rw [Nat.add_assoc]
  exact hc' 1 _ (by rw [← hkid]; rfl)
/-- bytes as a range -/
theorem bytes_rangeT {w : World} {a : Option Addr} {n c : Nat} {l : List UInt8} (h : Bytes w (.slice a n c) l) (hn : 0 < n) : ∃ b off, a = some ⟨b, off, none⟩ ∧ ∀ u, Below w.heap.size w u → u.rangeAt b off (by8 l) := by
  obtain ⟨h0, a, c, hv, h1, h2, h3⟩ := h
  simp only [Value.slice.injEq] at hv
  obtain ⟨rfl, hl, rfl⟩ := hv
  rcases h3 with ⟨_, h4, _⟩ | ⟨b, off, s, rfl, hs, h3⟩
  · omega
  · obtain rfl : s = none := hs.resolve_right (by omega)
    refine ⟨b, off, rfl, fun u hu j v hv => ?_⟩
    have hc := h3 j v (by rw [flat_b8]; exact hv)
    exact (hu.cell (World.block_lt_of_cell? w _ hc)).trans hc
/-- a new transaction of noughts -/
def PtX (B : Nat) : Ty := fun v w => ∃ g, v = .pointer (some ⟨g, 0, none⟩) ∧ B ≤ g ∧ Blk 77 w g (txcs zX (.slice none 0 0))
theorem PtX.mono (B : Nat) : Mono (PtX B) := fun _ _ _ ⟨g, h1, h2, h3⟩ hb => ⟨g, h1, h2, h3.kept hb⟩
def IsV (X : Value) : Ty := fun v _ => v = X
theorem IsV.mono (X : Value) : Mono (IsV X) := fun _ _ _ h _ => h
theorem aggAddr : Agg Try.prog 54 8 := ⟨_, Try.underlying54, rfl, by kernel_rfl⟩
/-- the numbers, so many of them read -/
def rdNs (ts : List (List UInt8)) (k : Nat) : List Value := (List.range 4).map fun i => u64v (if i < k then nfP (ts[i + 2]?.getD []) else 0)
theorem rdNs_zero (ts : List (List UInt8)) : rdNs ts 0 = [.int .u64 0, .int .u64 0, .int .u64 0, .int .u64 0] := rfl
theorem rdNs_succ (ts : List (List UInt8)) (k : Nat) (hk : k < 4) : (rdNs ts k).set k (u64v (nfP (ts[k + 2]?.getD []))) = rdNs ts (k + 1) := by
  rcases (by omega : k = 0 ∨ k = 1 ∨ k = 2 ∨ k = 3) with rfl | rfl | rfl | rfl <;> rfl
theorem rdNs_four (ts : List (List UInt8)) : rdNs ts 4 = [u64v (nfP (ts[2]?.getD [])), u64v (nfP (ts[3]?.getD [])), u64v (nfP (ts[4]?.getD [])), u64v (nfP (ts[5]?.getD []))] := rfl
set_option maxHeartbeats 4000000 in
set_option maxRecDepth 100000 in
theorem xread_good (a : Option Addr) (L c : Nat) (b : List UInt8) (hL : b.length = L) (hLs : L ≤ 1048576) (hE : decE b = 0) (h8 : kidsN (decP b) = 8) (h0 : ((kidT (decP b))[0]?.getD []).length = 8) (h1 : ((kidT (decP b))[1]?.getD []).length = 8) (w : World) (h : Bytes w (.slice a L c) b) : Calls Try.prog 36 #[.slice a L c] w (ReadX b w) := by
  have hz := Blk.new w 77 (txcs zX (.slice none 0 0))
  have hbel : Below w.heap.size w (w.alloc (.cells (txcs zX (.slice none 0 0)).toArray 77)) := (Below.refl _ _).alloc (Nat.le_refl _) _
  have hlt0 := hz.lt
  have cc := fun u (hu : Bytes u (.slice a L c) b) => decode_any a L c b hL hLs u hu
  rw [hE] at cc
  obtain ⟨TS, hTS⟩ : ∃ T, T = kidT (decP b) := ⟨_, rfl⟩
  have htl : ∀ t ∈ TS, t.length ≤ 1048576 := fun t ht => by
    rw [hTS] at ht
    cases hd : dec b with
    | none => unfold decE at hE; rw [hd] at hE; cases hE
    | some p =>
      have hp : decP b = p := by unfold decP; rw [hd]; rfl
      have hb := dec_back hd
      have := kidT_le p t (by rw [← hp]; exact ht)
      rw [← hb] at this
      omega
  rw [← hTS] at h0 h1
  have C := Lib.hid cc
  have H8 := Lib.hid h8
  have HTS := Lib.hid hTS
  have H0 := Lib.hid h0
  have H1 := Lib.hid h1
  have Htl := Lib.hid htl
  clear cc hE hLs h8 hTS h0 h1 htl
  go_enter Try.func36, Try.ntmps36
  go_wp2_with (first
    | (go_at_call 83; (with_reducible refine (C.out _ (h.alloc _)).mono ?_); rintro e w1 ⟨it, rfl, b1, hF, hbare, he, _⟩; have hz1 := hz.kept b1; have hbel1 := Below.then hbel b1; have hs1 := Nat.lt_of_lt_of_le hlt0 b1.size; obtain ⟨l, tv, t, kv, ks⟩ := it; obtain ⟨hkk, _, hkt⟩ := kids_of hbare he; change ks.length = _ at hkk; change ks.map itt = _ at hkt; rw [H8.out] at hkk; obtain ⟨ta, tc, rfl, _, _⟩ := hF.is.inv.1.form; have hrow := hF.is.inv.2.1; obtain ⟨ka, kc, rfl, _⟩ := hrow.form' 8 hkk; obtain ⟨kb, ko, rfl, hkx⟩ := kid_textsF hF (by omega); rw [hkt, ← HTS.out] at hkx; rw [hkk] at hkx; have Hkx := Lib.hid hkx; obtain ⟨ta0, tc0, h0t, _⟩ := hkx 0 (by omega); rw [H0.out] at h0t; obtain ⟨ta1, tc1, h1t, _⟩ := hkx 1 (by omega); rw [H1.out] at h1t; have H0t := Lib.hid h0t; have H1t := Lib.hid h1t; clear hF hbare he hkk hkt hrow hkx h0t h1t; simp only [icells])
    | ((with_reducible show wpList _ _ _ (⟨none, Op.store _ _ (Operand.tmp 16), _, _, _, _⟩ :: _) _ _); refine wpList_storeA (o := ⟨none, _, _, _, _, _⟩) (by rfl) 156 (.tmp 4) (.tmp 16) (by rfl) w1.heap.size [.bool l, .slice ta t.length tc, .slice (some ⟨kb, ko, none⟩) 8 kc] (by rfl) (by rfl) aggItem (Blk.new w1 156 [.bool false, .slice none 0 0, .slice none 0 0]) (by rfl) (by rfl) (by intro u hu; simp at hu; rcases hu with rfl | rfl | rfl <;> rfl) (((Below.refl w1.heap.size w1).alloc (Nat.le_refl _) (.cells #[.bool false, .slice none 0 0, .slice none 0 0] 156))) (Nat.le_refl _) ?_; intro w4 h4 b4 _; have hz4 := hz1.kept b4; have hbel4 := Below.then hbel1 b4; have c42 : w4.cell? ⟨w1.heap.size, 2, none⟩ = some (.slice (some ⟨kb, ko, none⟩) 8 kc) := h4.cell 2; have q0 : w4.cell? ⟨kb, ko + 1, none⟩ = some (.slice ta0 8 tc0) := (H0t.out w4 b4).1; have q1 : w4.cell? ⟨kb, ko + 3 + 1, none⟩ = some (.slice ta1 8 tc1) := (H1t.out w4 b4).1))
  have hbn : Below w4.heap.size w4 (w4.alloc (.cells #[.int .u64 0, .int .u64 0, .int .u64 0, .int .u64 0] 47)) := (Below.refl _ _).alloc (Nat.le_refl _) _
  have F : RxW w w1 w1.heap.size w4.heap.size [.bool l, .slice ta t.length tc, .slice (some ⟨kb, ko, none⟩) 8 kc] (rdNs TS 0) (w4.alloc (.cells #[.int .u64 0, .int .u64 0, .int .u64 0, .int .u64 0] 47)) :=
    ⟨Below.then hbel4 hbn, Below.then b4 hbn, hz4.kept hbn, h4.kept hbn, Blk.new w4 _ _, hs1, Nat.le_refl _, h4.lt⟩
  obtain ⟨g6, hg6⟩ : ∃ g, g = w4.heap.size := ⟨_, rfl⟩
  rw [← hg6] at F
  try rw [← hg6]
  clear hz hbel hlt0 b1 hz1 hbel1 hs1 h4 hz4 hbel4 c42 q0 q1 hbn hg6
  go_loopw [45] (fun ix wr => ∃ k : Nat, k ≤ 4 ∧ ix = .int .i64 (k : Int) ∧ RxW w w1 w1.heap.size g6 [.bool l, .slice ta t.length tc, .slice (some ⟨kb, ko, none⟩) 8 kc] (rdNs TS k) wr) (fun ix _ => 4 - (intOf ix).toNat)
  case atStart => exact ⟨0, by omega, rfl, F⟩
  case round =>
    clear F
    obtain ⟨k, hk, rfl, F⟩ := hrel
    by_cases hlt : k < 4
    · have hki : (k : Int) < (4 : Int) := by omega
      obtain ⟨j, hj⟩ : ∃ j : Nat, j = k + 2 := ⟨_, rfl⟩
      have hj2 : (k : Int) + 2 = (j : Int) := by omega
      have hjw : IntKind.i64.wrap ((k : Int) + 2) = (j : Int) := by rw [hj2]; exact IntWalk.i64_in _ (by omega)
      have hj8 : (j : Int) < 8 := by omega
      obtain ⟨tak, tck, hkk, _⟩ := Hkx.out j (by omega)
      obtain ⟨T, hT⟩ : ∃ T, T = TS[j]?.getD [] := ⟨_, rfl⟩
      rw [← hT] at hkk
      obtain ⟨n, hn⟩ : ∃ n, n = T.length := ⟨_, rfl⟩
      rw [← hn] at hkk
      have d2 : wr.cell? ⟨w1.heap.size, 2, none⟩ = some (.slice (some ⟨kb, ko, none⟩) 8 kc) := F.h4.cell 2
      obtain ⟨dq, db⟩ := hkk wr F.hk
      have ct : Calls Try.prog 84 #[.slice tak n tck] wr fun e w' => e = .returned (.tuple #[.agg (wcs (numV T)).toArray, .int .i64 (numE T)]) ∧ Below wr.heap.size wr w' := by
        rw [hn] at db ⊢; exact tonum_any tak tck T wr db
      have hnf : rdNs TS (k + 1) = (rdNs TS k).set k (u64v (lim (numV T) 0)) := by
        rw [← rdNs_succ TS k hlt, ← hj, ← hT]; rfl
      obtain ⟨V, hV⟩ : ∃ V, V = numV T := ⟨_, rfl⟩
      obtain ⟨E, hEE⟩ : ∃ E, E = numE T := ⟨_, rfl⟩
      rw [← hV] at hnf ct
      rw [← hEE] at ct
      have Ct := Lib.hid ct
      have Hnf := Lib.hid hnf
      have Hj := Lib.hid hj
      have Hj2 := Lib.hid hj2
      clear hkk hT hn ct hnf hV hEE db hj hj2
      go_wp2_with (first
        | (go_at_call 84; refine Ct.out.mono ?_; rintro e w2 ⟨rfl, b2⟩; have F := F.kept b2; have n8 := Blk.new w2 48 [.int .u64 0, .int .u64 0, .int .u64 0, .int .u64 0])
        | ((with_reducible show wpList _ _ _ (⟨none, Op.store _ _ (Operand.tmp 57), _, _, _, _⟩ :: _) _ _); refine wpList_storeA (o := ⟨none, _, _, _, _, _⟩) (by rfl) 48 (.tmp 8) (.tmp 57) (by rfl) w2.heap.size (wcs V) (by rfl) (by rfl) aggWord n8 (wcs_len _) (by rfl) (wcs_one _) ((Below.refl w2.heap.size w2).alloc (Nat.le_refl _) _) (Nat.le_refl _) ?_; intro w3 z8 b3 _; have F := F.kept b3; have c80 : w3.cell? ⟨w2.heap.size, 0, none⟩ = some (.int .u64 (lim V 0 : Int)) := z8.cell 0; have hc6 := F.hn.has k (by show k < 4; omega); have hf6 := F.hn.free k; obtain ⟨y6, hy6⟩ := hc6; have F := F.set k (.int .u64 (lim V 0 : Int))))
      go_roundw
      case rel => exact ⟨k + 1, by omega, by go_num, by rw [Hnf.out]; exact F⟩
      case measure => simp [intOf]; omega
    · obtain rfl : k = 4 := by omega
      obtain ⟨F0, hF0⟩ : ∃ T, T = TS[0]?.getD [] := ⟨_, rfl⟩
      obtain ⟨F1, hF1⟩ : ∃ T, T = TS[1]?.getD [] := ⟨_, rfl⟩
      obtain ⟨F7, hF7⟩ : ∃ T, T = TS[7]?.getD [] := ⟨_, rfl⟩
      obtain ⟨T6, hT6⟩ : ∃ T, T = TS[6]?.getD [] := ⟨_, rfl⟩
      obtain ⟨ta6, tc6, h6t, _⟩ := Hkx.out 6 (by omega)
      obtain ⟨ta7, tc7, h7t, h7f⟩ := Hkx.out 7 (by omega)
      rw [← hT6] at h6t
      rw [← hF7] at h7t h7f
      have h0t := H0t.out
      have h1t := H1t.out
      rw [← hF0] at h0t
      rw [← hF1] at h1t
      obtain ⟨b0, o0, rfl, R0⟩ := bytes_rangeT (h0t wr F.hk).2 (by omega)
      obtain ⟨b1', o1, rfl, R1⟩ := bytes_rangeT (h1t wr F.hk).2 (by omega)
      obtain ⟨n6, hn6⟩ : ∃ n, n = T6.length := ⟨_, rfl⟩
      rw [← hn6] at h6t
      obtain ⟨n7, hn7⟩ : ∃ n, n = F7.length := ⟨_, rfl⟩
      rw [← hn7] at h7t h7f
      obtain ⟨V6, hV6⟩ : ∃ V, V = numV T6 := ⟨_, rfl⟩
      obtain ⟨E6, hE6⟩ : ∃ E, E = numE T6 := ⟨_, rfl⟩
      obtain ⟨N2, hN2⟩ : ∃ V, V = nfP (TS[2]?.getD []) := ⟨_, rfl⟩
      obtain ⟨N3, hN3⟩ : ∃ V, V = nfP (TS[3]?.getD []) := ⟨_, rfl⟩
      obtain ⟨N4, hN4⟩ : ∃ V, V = nfP (TS[4]?.getD []) := ⟨_, rfl⟩
      obtain ⟨N5, hN5⟩ : ∃ V, V = nfP (TS[5]?.getD []) := ⟨_, rfl⟩
      obtain ⟨B2, hB2⟩ : ∃ V, V = decide (N2 = 1) := ⟨_, rfl⟩
      have hX : rdP TS = ⟨F0, F1, B2, N3, N4, N5, V6, F7⟩ := by rw [hF0, hF1, hB2, hN2, hN3, hN4, hN5, hV6, hT6, hF7]; rfl
      have hOk : (rdP TS).Ok := rdP_ok (by rw [← hF0]; have := (h0t wr F.hk).2.fits.1; omega) (by rw [← hF1]; have := (h1t wr F.hk).2.fits.1; omega) Htl.out
      rw [hX] at hOk
      have hB2i : ((N2 : Int) == 1) = B2 := by
        rw [hB2]
        by_cases h : N2 = 1
        · subst h; rfl
        · rw [decide_eq_false h, beq_eq_false_iff_ne]; omega
      have hz6 := F.hn
      rw [rdNs_four, ← hN2, ← hN3, ← hN4, ← hN5] at hz6
      have d2 : wr.cell? ⟨w1.heap.size, 2, none⟩ = some (.slice (some ⟨kb, ko, none⟩) 8 kc) := F.h4.cell 2
      have d6 : wr.cell? ⟨kb, ko + 18 + 1, none⟩ = some (.slice ta6 n6 tc6) := (h6t wr F.hk).1
      have ct : Calls Try.prog 84 #[.slice ta6 n6 tc6] wr fun e w' => e = .returned (.tuple #[.agg (wcs V6).toArray, .int .i64 E6]) ∧ Below wr.heap.size wr w' := by
        rw [hV6, hE6]
        have := (h6t wr F.hk).2
        rw [hn6] at this ⊢; exact tonum_any ta6 tc6 T6 wr this
      have Ct := Lib.hid ct
      have HX := Lib.hid hX
      have HOk := Lib.hid hOk
      have H7t := Lib.hid h7t
      have H7f := Lib.hid h7f
      have HR0 := Lib.hid R0
      have HR1 := Lib.hid R1
      have Q0 := Lib.hid h0t
      have Q1 := Lib.hid h1t
      have Hn7 := Lib.hid hn7
      have Hl0 : Hid (F0.length = 8) := Lib.hid (by have := (h0t wr F.hk).2.fits.1; omega)
      have Hl1 : Hid (F1.length = 8) := Lib.hid (by have := (h1t wr F.hk).2.fits.1; omega)
      clear hF0 hF1 hF7 hT6 h6t h7t h7f h0t h1t R0 R1 hn6 hn7 hV6 hE6 hN2 hN3 hN4 hN5 hB2 hX hOk ct
      go_upto_region 12 with (first
        | (go_at_call 84; refine Ct.out.mono ?_; rintro e w2 ⟨rfl, b2⟩; have F := F.kept b2; have hz6 := hz6.kept b2; have n10 := Blk.new w2 48 [.int .u64 0, .int .u64 0, .int .u64 0, .int .u64 0])
        | ((with_reducible show wpList _ _ _ (⟨none, Op.store _ _ (Operand.tmp 71), _, _, _, _⟩ :: _) _ _); refine wpList_storeA (o := ⟨none, _, _, _, _, _⟩) (by rfl) 48 (.tmp 10) (.tmp 71) (by rfl) w2.heap.size (wcs V6) (by rfl) (by rfl) aggWord n10 (wcs_len _) (by rfl) (wcs_one _) ((Below.refl w2.heap.size w2).alloc (Nat.le_refl _) _) (Nat.le_refl _) ?_; intro w3 z10 b3 _; have F := F.kept b3; have hz6 := hz6.kept b3))
      have b23 : Below wr.heap.size wr w3 := Below.then b2 b3
      have hw13 := F.hk.size
      have k2 := fun u : Ext w3 => u.cell ((F.h4.cell 2).trans (show _ = some (Value.slice (some ⟨kb, ko, none⟩) 8 kc) from rfl))
      have k0t := fun u : Ext w3 => u.cell (show w3.cell? ⟨kb, ko + 1, none⟩ = some (.slice (some ⟨b0, o0, none⟩) 8 tc0) from (Q0.out w3 F.hk).1)
      have k1t := fun u : Ext w3 => u.cell (show w3.cell? ⟨kb, ko + 3 + 1, none⟩ = some (.slice (some ⟨b1', o1, none⟩) 8 tc1) from (Q1.out w3 F.hk).1)
      have k7t := fun u : Ext w3 => u.cell (show w3.cell? ⟨kb, ko + 21 + 1, none⟩ = some (.slice ta7 n7 tc7) from (H7t.out w3 F.hk).1)
      have m0 := fun u : Ext w3 => u.cell ((hz6.cell 0).trans (show _ = some (Value.int .u64 (N2 : Int)) from rfl))
      have m1 := fun u : Ext w3 => u.cell ((hz6.cell 1).trans (show _ = some (Value.int .u64 (N3 : Int)) from rfl))
      have m2 := fun u : Ext w3 => u.cell ((hz6.cell 2).trans (show _ = some (Value.int .u64 (N4 : Int)) from rfl))
      have m3 := fun u : Ext w3 => u.cell ((hz6.cell 3).trans (show _ = some (Value.int .u64 (N5 : Int)) from rfl))
      have hs8 : ∀ b o c x, (Instr.arrayAt 54 (.slice (some ⟨b, o, none⟩) 8 c)).run Try.prog x = .ok (.pointer (some ⟨b, o, none⟩)) x := fun b o c x => run_arrayAt (P := Try.prog) (t := 54) (e := 5) (n := 8) (by kernel_rfl) _ 8 c (Nat.le_refl _) x
      have S0 := Lib.hid (HR0.out w3 b23)
      have S1 := Lib.hid (HR1.out w3 b23)
      have S6 := Lib.hid z10.all0
      have L0 : Hid ((by8 F0).length = 8) := Lib.hid (by rw [by8_len]; exact Hl0.out)
      have L1 : Hid ((by8 F1).length = 8) := Lib.hid (by rw [by8_len]; exact Hl1.out)
      clear d2 d6
      refine wp_region_typed w3 31 (by kernel_rfl) (by kernel_rfl) (Below.refl _ _) ?_; simp only [List.take_succ_cons, List.take_zero, List.take_nil]
      iterate 6 (refine wpX_step (by rfl) (fun K hK => ?_); go_simp; first | (refine hK _ ?_; clear hK K) | (apply Exists.intro; refine ⟨fun _ => ?_, hK _ ?_⟩; fail; clear hK K))
      (refine wpX_step (by rfl) (fun K hK => ?_); rw [if_pos (by rfl)]; refine ⟨_, fun u => const_loadm _ (.tmp 78) (by rfl) _ _ (by rfl) aggAddr L0.out (rangeAt.ext S0.out u), hK _ ?_⟩; clear hK K; simp only [Act.put, List.setIfInBounds_toArray, List.set_cons_zero, List.set_cons_succ])
      iterate 6 (refine wpX_step (by rfl) (fun K hK => ?_); go_simp; first | (refine hK _ ?_; clear hK K) | (apply Exists.intro; refine ⟨fun _ => ?_, hK _ ?_⟩; fail; clear hK K))
      (refine wpX_step (by rfl) (fun K hK => ?_); rw [if_pos (by rfl)]; refine ⟨_, fun u => const_loadm _ (.tmp 85) (by rfl) _ _ (by rfl) aggAddr L1.out (rangeAt.ext S1.out u), hK _ ?_⟩; clear hK K; simp only [Act.put, List.setIfInBounds_toArray, List.set_cons_zero, List.set_cons_succ])
      iterate 9 (refine wpX_step (by rfl) (fun K hK => ?_); go_simp; first | (refine hK _ ?_; clear hK K) | (apply Exists.intro; refine ⟨fun _ => ?_, hK _ ?_⟩; fail; clear hK K))
      (refine wpX_step (by rfl) (fun K hK => ?_); rw [if_pos (by rfl)]; refine ⟨_, fun u => const_loadm _ (.tmp 10) (by rfl) _ _ (by rfl) aggWord (wcs_len V6) (rangeAt.ext S6.out u), hK _ ?_⟩; clear hK K; simp only [Act.put, List.setIfInBounds_toArray, List.set_cons_zero, List.set_cons_succ])
      iterate 5 (refine wpX_step (by rfl) (fun K hK => ?_); go_simp; first | (refine hK _ ?_; clear hK K) | (apply Exists.intro; refine ⟨fun _ => ?_, hK _ ?_⟩; fail; clear hK K))
      refine wpX_eq (.agg (txcs ⟨F0, F1, B2, N3, N4, N5, V6, F7⟩ (.slice ta7 n7 tc7)).toArray) (fun w2 hw2 => ?_) ?_
      · simp only [relOf, List.filter_nil, forallRel]
        refine ⟨rfl, ?_⟩
        exact good_build (o := ⟨some 102, _, _, _, _, _⟩) 77 [(0, .tmp 79), (1, .tmp 86), (2, .tmp 89), (3, .tmp 91), (4, .tmp 93), (5, .tmp 95), (6, .tmp 96), (7, .tmp 101)] (by rfl) _ (by rfl) _ (built_tx HOk.out ta7 n7 tc7) rfl
      refine wpX_rel 12 (PtX w3.heap.size) rfl (of_decide_eq_true rfl) (PtX.mono _) (fun w2 hw2 => ?_) ?_
      · simp only [relOf, List.filter_nil, List.filter_cons, forallRel]
        try simp only [forallRel]
        refine ⟨rfl, ?_⟩
        go_simp
        exact ⟨(Below.refl _ _).alloc (Nat.le_refl _) _, w2.heap.size, rfl, hw2.size, Blk.new w2 _ _⟩
      refine wpX_nil ?_
      intro u2 hb2 v12 h12
      change wpList _ _ _ [_] _ _
      obtain ⟨g12, rfl, hB12, z12⟩ := h12
      have F := F.kept hb2
      clear k2 k0t k1t k7t m0 m1 m2 m3 hs8 hz6 z10
      simp only [Act.put, List.setIfInBounds_toArray, List.set_cons_zero, List.set_cons_succ]
      obtain ⟨X, hX⟩ : ∃ X : Txd, X = ⟨F0, F1, B2, N3, N4, N5, V6, F7⟩ := ⟨_, rfl⟩
      have hOk : X.Ok := by rw [hX]; exact HOk.out
      have hRd : rdP TS = X := by rw [hX]; exact HX.out
      have hd7 : X.dat = F7 := by rw [hX]
      rw [← hX]
      have hlX := txcs_len hOk (.slice ta7 n7 tc7)
      have hoX := txcs_one X ta7 n7 tc7
      have cw := fun u (hu : Bytes u (.slice ta7 n7 tc7) F7) => xwrite_any X hOk ta7 n7 tc7 u (by rw [hd7]; exact hu)
      obtain ⟨WB, hWB⟩ : ∃ W, W = wX X := ⟨_, rfl⟩
      rw [← hWB] at cw
      obtain ⟨XC, hXC⟩ : ∃ X', X' = txcs X (.slice ta7 n7 tc7) := ⟨_, rfl⟩
      rw [← hXC] at hlX hoX
      simp only [← hXC] at cw
      rw [← hXC]
      have Cw := Lib.hid cw
      have HlX := Lib.hid hlX
      have HoX := Lib.hid hoX
      have HXC := Lib.hid hXC
      have HWB := Lib.hid hWB
      have HRd := Lib.hid hRd
      have HOk2 := Lib.hid hOk
      have Hd7 := Lib.hid hd7
      clear hX hOk hRd hd7 hlX hoX cw hWB hXC
      obtain ⟨q, hq⟩ : ∃ q, q = (WB == b) := ⟨_, rfl⟩
      have Hq := Lib.hid hq
      have hg1 : w1.heap.size ≤ g12 := Nat.le_trans hw13 hB12
      have hgz : w.heap.size < g12 := Nat.lt_of_lt_of_le F.h0 hg1
      clear hq
      cases q
      · go_wp2_with (first
          | ((with_reducible show wpList _ _ _ (⟨none, Op.store _ _ (Operand.tmp 102), _, _, _, _⟩ :: _) _ _); refine wpList_storeA (o := ⟨none, _, _, _, _, _⟩) (by rfl) 77 (.tmp 12) (.tmp 102) (by rfl) g12 XC (by rfl) (by rfl) aggTx z12 HlX.out (by rfl) HoX.out (Below.refl _ _) (Nat.le_refl _) ?_; intro w4' z4 b4' g4'; have bz := F.hb.grown g4' F.hb.size (fun j hj => by cases hj; omega); have hz4 := F.hz.grown g4' (by simp; omega); have hk4 : Below w1.heap.size w1 w4' := F.hk.grown g4' F.hk.size (fun j hj => by cases hj; exact hg1))
          | ((with_reducible show wpList _ _ _ (⟨some 103, _, _, _, _, _⟩ :: _) _ _); refine wpList_loadA (o := ⟨some 103, _, _, _, _, _⟩) (by rfl) 77 (.tmp 12) (by rfl) g12 (by rfl) aggTx z4 HlX.out ?_)
          | (go_at_call 38; (with_reducible refine (Cw.out _ (H7t.out _ hk4).2).mono ?_); rintro e w5 ⟨v5, rfl, o5, b5⟩; obtain ⟨a5, c5, rfl, _⟩ := o5.form; have bz5 := Below.then bz b5; have hz5 := hz4.kept b5; have eqq := bequal_any a5 a WB.length c5 L c WB b w5 o5.row (h.below bz5); rw [← Hq.out] at eqq; have Eqq := Lib.hid eqq; clear eqq)
          | (go_at_call 85; refine Eqq.out.mono ?_; rintro e w6 ⟨rfl, rfl⟩)
          | ((with_reducible show wpList _ _ _ (⟨none, Op.store _ _ (Operand.tmp 108), _, _, _, _⟩ :: _) _ _); refine wpList_storeA (o := ⟨none, _, _, _, _, _⟩) (by rfl) 77 (.tmp 2) (.tmp 108) (by rfl) w.heap.size (txcs zX (.slice none 0 0)) (by rfl) (by rfl) aggTx hz5 (by rfl) (by rfl) (txcs_one _ _ _ _) bz5 (Nat.le_refl _) ?_; intro w7 z7 bz7 _))
        have hne : wX (rdP (kidT (decP b))) ≠ b := by
          rw [← HTS.out, HRd.out, ← HWB.out]
          intro e
          have := Hq.out
          rw [e, beq_self_eq_true] at this
          cases this
        exact bodyPost_ret (v := .tuple #[.agg (txcs zX (.slice none 0 0)).toArray, .int .i64 1]) (results_blk_tmp rfl _ _ w.heap.size aggTx z7 (by rfl) rfl rfl) rfl ⟨zX, 1, none, 0, 0, rfl, zX_ok, rdx_not (rd := rdP) (fun g k => rdP_self k) hne, RowOf.nil b8 1 _, bz7⟩
      · have heq : wX X = b := by
          rw [← HWB.out]
          exact beq_iff_eq.1 Hq.out.symm
        have Heq := Lib.hid heq
        clear heq
        go_wp2_with (first
          | ((with_reducible show wpList _ _ _ (⟨none, Op.store _ _ (Operand.tmp 102), _, _, _, _⟩ :: _) _ _); refine wpList_storeA (o := ⟨none, _, _, _, _, _⟩) (by rfl) 77 (.tmp 12) (.tmp 102) (by rfl) g12 XC (by rfl) (by rfl) aggTx z12 HlX.out (by rfl) HoX.out (Below.refl _ _) (Nat.le_refl _) ?_; intro w4' z4 b4' g4'; have bz := F.hb.grown g4' F.hb.size (fun j hj => by cases hj; omega); have hz4 := F.hz.grown g4' (by simp; omega); have hk4 : Below w1.heap.size w1 w4' := F.hk.grown g4' F.hk.size (fun j hj => by cases hj; exact hg1))
          | ((with_reducible show wpList _ _ _ (⟨some 103, _, _, _, _, _⟩ :: _) _ _); refine wpList_loadA (o := ⟨some 103, _, _, _, _, _⟩) (by rfl) 77 (.tmp 12) (by rfl) g12 (by rfl) aggTx z4 HlX.out ?_)
          | (go_at_call 38; (with_reducible refine (Cw.out _ (H7t.out _ hk4).2).mono ?_); rintro e w5 ⟨v5, rfl, o5, b5⟩; obtain ⟨a5, c5, rfl, _⟩ := o5.form; have bz5 := Below.then bz b5; have hz5 := hz4.kept b5; have z45 := z4.kept b5; have hk5 := Below.then hk4 b5; have eqq := bequal_any a5 a WB.length c5 L c WB b w5 o5.row (h.below bz5); rw [← Hq.out] at eqq; have Eqq := Lib.hid eqq; clear eqq)
          | (go_at_call 85; refine Eqq.out.mono ?_; rintro e w6 ⟨rfl, rfl⟩)
          | ((with_reducible show wpList _ _ _ (⟨some 109, _, _, _, _, _⟩ :: _) _ _); refine wpList_loadA (o := ⟨some 109, _, _, _, _, _⟩) (by rfl) 77 (.tmp 12) (by rfl) g12 (by rfl) aggTx z45 HlX.out ?_)
          | ((with_reducible show wpList _ _ _ (⟨none, Op.store _ _ (Operand.tmp 109), _, _, _, _⟩ :: _) _ _); refine wpList_storeA (o := ⟨none, _, _, _, _, _⟩) (by rfl) 77 (.tmp 2) (.tmp 109) (by rfl) w.heap.size XC (by rfl) (by rfl) aggTx hz5 HlX.out (by rfl) HoX.out bz5 (Nat.le_refl _) ?_; intro w7 z7 bz7 g7))
        have h7b : Bytes w7 (.slice ta7 n7 tc7) F7 := H7f.out w7 (fun x hx hlt => by
          have hx' : w.heap.size + 1 ≤ x := by simpa using hx
          rw [g7.block x (Nat.lt_of_lt_of_le hlt hk5.size) (by simp; omega), hk5.block x hlt])
        exact bodyPost_ret (v := .tuple #[.agg XC.toArray, .int .i64 0]) (results_blk_tmp rfl _ _ w.heap.size aggTx z7 HlX.out rfl rfl) rfl ⟨X, 0, ta7, n7, tc7, by rw [HXC.out], HOk2.out, rdx_yes Heq.out, by rw [Hd7.out]; exact h7b, bz7⟩
/-- tx.Read, whatever the bytes -/
theorem xread_any (a : Option Addr) (L c : Nat) (b : List UInt8) (hL : b.length = L) (hLs : L ≤ 1048576) (w : World) (h : Bytes w (.slice a L c) b) : Calls Try.prog 36 #[.slice a L c] w (ReadX b w) := by
  by_cases hE : decE b = 0
  · by_cases h8 : kidsN (decP b) = 8
    · by_cases h0 : ((kidT (decP b))[0]?.getD []).length = 8
      · by_cases h1 : ((kidT (decP b))[1]?.getD []).length = 8
        · exact xread_good a L c b hL hLs hE h8 h0 h1 w h
        · exact xread_bad a L c b hL hLs (.inr (.inr (.inr ⟨hE, h8, h0, h1⟩))) w h
      · exact xread_bad a L c b hL hLs (.inr (.inr (.inl ⟨hE, h8, h0⟩))) w h
    · exact xread_bad a L c b hL hLs (.inr (.inl ⟨hE, h8⟩)) w h
  · exact xread_bad a L c b hL hLs (.inl hE) w h
end Go.Proofs.Ytnhbfnegpjkojaa
