/- The reference's GPairs. -/
import Derived.Test.YtljbbpcnoajfeaaPrs7
set_option linter.unusedSimpArgs false
set_option linter.unusedVariables false
namespace Go.Proofs.Ytljbbpcnoajfeaa
open Go.RowKit
/-- bytes that lie in a block of bytes -/
structure Bt (W : World) (v : Value) (D : List UInt8) : Prop where
  r : Bytes W v D
  t : ∀ g, v.ownBlock = some g → ∃ cur fr, W.heap[g]? = some (.cells cur 5 fr)
theorem Bt.kept {W W' : World} {v : Value} {D : List UInt8} (h : Bt W v D) (hb : Below W.heap.size W W') : Bt W' v D :=
  ⟨h.r.kept hb, fun g hg => by
    obtain ⟨cur, fr, hh⟩ := h.t g hg
    exact ⟨cur, fr, (hb.block g (Array.getElem?_eq_some_iff.1 hh).1).trans hh⟩⟩
theorem Bt.grown {W W' : World} {v : Value} {D : List UInt8} {row : Option Nat} (h : Bt W v D) (hg : W.grownBy W' row) (hr : ∀ g, row = some g → ∃ e cs, Blk e W g cs ∧ e ≠ 5) : Bt W' v D := by
  have hne : ∀ x, v.ownBlock = some x → row ≠ some x := fun x hx e => by
    obtain ⟨e', cs, hb, hn⟩ := hr x e
    obtain ⟨cur, fr, hh⟩ := h.t x hx
    rw [show W.heap[x]? = _ from hb] at hh
    simp at hh
    exact hn hh.2.1
  have hlt : ∀ x, v.ownBlock = some x → x < W.heap.size := fun x hx => by
    obtain ⟨cur, fr, hh⟩ := h.t x hx
    exact (Array.getElem?_eq_some_iff.1 hh).1
  refine ⟨h.r.grownT hg hlt hne, fun g hgb => ?_⟩
  obtain ⟨cur, fr, hh⟩ := h.t g hgb
  exact ⟨cur, fr, (hg.block g (hlt g hgb) (fun e => hne g hgb e.symm)).trans hh⟩
theorem Bt.of {W : World} {B : Nat} {v : Value} {D : List UInt8} (h : OwnOf b8 1 5 W B v D) : Bt W v D :=
  ⟨h.row, fun g hg => by
    rcases h.2 with ⟨rfl, _⟩ | ⟨g', cap, cur, rfl, _, hh, _⟩
    · cases hg
    · simp only [Value.ownBlock, Option.some.injEq] at hg
      subst hg
      exact ⟨cur, _, hh⟩⟩
theorem wpList_bytesT {w : World} {ops : Array Oper} {rest : List Oper} {o : Oper} {a : Act} {Q : Exit → Act → World → Prop} (hgd : o.guard = none) (x : Operand)
    (ho : o.op = .convert 9 22 x) (l : List UInt8) (hx : a.eval x = .string ⟨l.toArray⟩) (hl : l.length ≤ maxLen)
    (h : ∀ (a' : Option Addr) (c' : Nat) w', Bt w' (.slice a' l.length c') l → Below w.heap.size w w' → wpList Try.prog ops Q rest (a.put o.dst (.slice a' l.length c')) w') : wpList Try.prog ops Q (o :: rest) a w := by
  refine wpList_plain hgd fun K hK => ?_
  have hr := run_bytes_of l w
  have hb := bytes_of w 5 l hl
  unfold Oper.wp execOp
  simp only [ho, hx, hr, Sem.run_bind, Result.andThen_ok, Sem.run_pure]
  exact hK _ _ (h _ _ _ ⟨hb.1, fun g hg => by
    simp only [Value.ownBlock, Option.some.injEq] at hg
    subst hg
    exact ⟨_, _, Lib.bytesWorld_at_new w 5 _⟩⟩ hb.2)
structure BtQ (W : World) (p : Kvq) : Prop where
  k : Bt W p.kv p.k
  v : Bt W p.vv p.v
theorem BtQ.kept {W W' : World} {p : Kvq} (h : BtQ W p) (hb : Below W.heap.size W W') : BtQ W' p := ⟨h.k.kept hb, h.v.kept hb⟩
/-- where the reference's loop stands -/
structure GpS (w0 : World) (l : List Rt) (k : Nat) (o : Value) (W : World) : Prop where
  b : Below w0.heap.size w0 W
  out : ∃ xs, OwnOf kvq 2 75 W w0.heap.size o xs ∧ (∀ x ∈ xs, BtQ W x) ∧ xs.map qtel = prsL (l.take k)
theorem GpS.kept {w0 W W' : World} {l : List Rt} {k : Nat} {o : Value} (h : GpS w0 l k o W) (hb : Below W.heap.size W W') : GpS w0 l k o W' := by
  obtain ⟨xs, h1, h2, h3⟩ := h.out
  exact ⟨Below.then h.b hb, xs, h1.kept hb, fun x hx => (h2 x hx).kept hb, h3⟩
theorem GpS.app {w0 y y6 : World} {l : List Rt} {k : Nat} {v v' : Value} {xs : List Kvq} (hb : Below w0.heap.size w0 y) (h1 : OwnOf kvq 2 75 y w0.heap.size v xs) (h2 : ∀ x ∈ xs, BtQ y x) (h3 : xs.map qtel = prsL (l.take k))
    (x : Rt) (hx : l[k]? = some x) (p : Kvq) (ht : qtel p = (joinR x.1, x.2)) (hp : BtQ y p) (ho : OwnOf kvq 2 75 y6 w0.heap.size v' (xs ++ [p])) (hg : y.grownBy y6 v.ownBlock) : GpS w0 l (k + 1) v' y6 := by
  have hr : ∀ g, v.ownBlock = some g → ∃ e cs, Blk e y g cs ∧ e ≠ 5 := fun g hgb => by
    rcases h1.2 with ⟨rfl, _⟩ | ⟨g', cap, cur, rfl, _, hh, _⟩
    · cases hgb
    · simp only [Value.ownBlock, Option.some.injEq] at hgb
      subst hgb
      exact ⟨75, cur.toList, by unfold Blk; simpa using hh, by decide⟩
  refine ⟨hb.grown hg hb.size (fun k hk => h1.lt k hk), xs ++ [p], ho, fun z hz => ?_, ?_⟩
  · rcases List.mem_append.1 hz with hz | hz
    · exact ⟨(h2 z hz).k.grown hg hr, (h2 z hz).v.grown hg hr⟩
    · rw [List.mem_singleton] at hz
      rw [hz]; exact ⟨hp.k.grown hg hr, hp.v.grown hg hr⟩
  · rw [List.map_append, h3, prsL_step l k x hx, List.map_cons, List.map_nil, ht]
/-- what both answer, as the comparison wants it -/
def PairsR (t : Nd) (w : World) (e : Ending) (w' : World) : Prop :=
  ∃ v xs, e = .returned (.tuple #[v, .int .i64 (if rgt 0 t then 0 else 1)]) ∧ RowOf kvq 2 w' v xs ∧ (∀ x ∈ xs, Bytes w' x.kv x.k ∧ Bytes w' x.vv x.v) ∧ xs.map qtel = (if rgt 0 t then prsL ((rts t).getD []) else []) ∧ Below w.heap.size w w'
theorem tpairs_r (t : Nd) (w : World) (hI : IsNd w t) (hb : bulkN t ≤ 1048576) : Calls Try.prog 7 #[.agg (ndcells t).toArray] w (PairsR t w) := by
  refine (tpairs_any t w hI hb).mono ?_
  rintro e w' ⟨v, xs, rfl, h1, h2, h3⟩
  exact ⟨v, xs, rfl, h1.own.row, fun x hx => ⟨(h1.q x hx).k.row, (h1.q x hx).v.row⟩, h2, h3⟩
set_option maxHeartbeats 8000000 in
set_option maxRecDepth 100000 in
theorem gpairs_any (t : Nd) (w : World) (hI : IsNd w t) (hb : bulkN t ≤ 1048576) : Calls Try.prog 8 #[.agg (ndcells t).toArray] w (PairsR t w) := by
  obtain ⟨K, hK⟩ : ∃ K, K = ndcells t := ⟨_, rfl⟩
  have hKl : K.length = 4 := by rw [hK]; exact ndcells_len t
  obtain ⟨w1, hw1⟩ : ∃ w1, w1 = w.alloc (.cells K.toArray 25) := ⟨_, rfl⟩
  have hbel : Below w.heap.size w w1 := by rw [hw1]; exact (Below.refl _ _).alloc (Nat.le_refl _) _
  have r1 : w1.rangeAt w.heap.size 0 K := by rw [hw1]; exact (Blk.new w _ _).all0
  have cR := gright_any t w1 (hI.kept hbel) hb
  rw [gright_rgt] at cR
  obtain ⟨R, hR⟩ : ∃ R, R = rgt 0 t := ⟨_, rfl⟩
  have cT := fun (u : World) (hu : Below w.heap.size w u) => routes_any 100000000000 (Nat.le_refl _) (SizeOf.sizeOf t) t (Nat.le_refl _) [] u (hI.kept hu) (by simp; omega)
  rw [show (⟨([] : List UInt8).toArray⟩ : ByteArray) = ⟨#[]⟩ from rfl] at cT
  have hfl : R = true → ∃ l, rts t = some l ∧ (∀ r ∈ l, r.1.length ≤ 64 ∧ r.2.length ≤ 1024) ∧ l.length ≤ 1048576 := fun hr => by
    rw [hR] at hr
    obtain ⟨l, h1, h2⟩ := rgt_fine hr
    exact ⟨l, h1, h2, Nat.le_trans (rts_len h1) hb⟩
  unfold PairsR
  rw [← hK] at cR cT ⊢
  rw [← hR] at cR ⊢
  have HWe := Lib.hid hw1
  have CR := Lib.hid cR
  have CT := Lib.hid cT
  have HFl := Lib.hid hfl
  have HKl := Lib.hid hKl
  have R1 := Lib.hid r1
  have Hbel := Lib.hid hbel
  clear hw1 cR cT hfl hKl r1 hbel hR hK hI hb
  cases R with
  | false =>
    go_enter Try.func8, Try.ntmps8
    go_wp2_with (first
      | (rw [← HWe.out])
      | ((with_reducible show wpList _ _ _ (⟨some 11, _, _, _, _, _⟩ :: _) _ _); refine wpList_loadW (o := ⟨some 11, _, _, _, _, _⟩) 25 (.tmp 1) (by rfl) w.heap.size 0 (by rfl) aggNode HKl.out R1.out (by rfl) ?_)
      | (go_at_call 26; (with_reducible refine CR.out.mono ?_); rintro e w2 ⟨rfl, b2⟩))
    refine bodyPost_ret (results_tmp2 rfl _ _ _) rfl ?_
    exact ⟨.slice none 0 0, rfl, [], RowOf.nil _ _ _, fun x hx => (by cases hx), rfl, Below.then Hbel.out b2⟩
  | true =>
    obtain ⟨l, hl1, hl2, hl3⟩ := HFl.out rfl
    have Hl1 := Lib.hid hl1
    have Hl2 := Lib.hid hl2
    have hct : ∀ (u : World), Below w.heap.size w u → Calls Try.prog 27 #[.agg K.toArray, .string ⟨#[]⟩] u (fun e w' => Below u.heap.size u w' ∧ ∃ (a : Option Addr) (n c : Nat), e = .returned (.tuple #[.slice a n c, .bool true]) ∧ RowOf rcells 2 w' (.slice a n c) l) := fun u hu => by
      have h1 := CT.out u hu
      rw [hl1] at h1
      have h2 : Calls Try.prog 27 #[.agg K.toArray, .string ⟨#[]⟩] u (fun e w' => Below u.heap.size u w' ∧ ∃ (a : Option Addr) (n c : Nat), e = .returned (.tuple #[.slice a n c, .bool true]) ∧ RowOf rcells 2 w' (.slice a n c) (pre [] l)) := h1
      rw [pre_nil] at h2
      exact h2
    have HCt := Lib.hid hct
    clear hl1 hl2 hct HFl CT
    go_enter Try.func8, Try.ntmps8
    go_wp2_with (first
      | (rw [← HWe.out])
      | ((with_reducible show wpList _ _ _ (⟨some 11, _, _, _, _, _⟩ :: _) _ _); refine wpList_loadW (o := ⟨some 11, _, _, _, _, _⟩) 25 (.tmp 1) (by rfl) w.heap.size 0 (by rfl) aggNode HKl.out R1.out (by rfl) ?_)
      | (go_at_call 26; (with_reducible refine CR.out.mono ?_); rintro e w2 ⟨rfl, b2⟩; have r2 := World.rangeAt.below R1.out b2; have b02 := Below.then Hbel.out b2)
      | ((with_reducible show wpList _ _ _ (⟨some 15, _, _, _, _, _⟩ :: _) _ _); refine wpList_loadW (o := ⟨some 15, _, _, _, _, _⟩) 25 (.tmp 1) (by rfl) w.heap.size 0 (by rfl) aggNode HKl.out r2 (by rfl) ?_)
      | (go_at_call 27; (with_reducible refine (HCt.out w2 b02).mono ?_); rintro e w3 ⟨b3, ra, rn, rc, rfl, hrow⟩; have b03 := Below.then b02 b3))
    have hrn : rn = l.length := hrow.fits.1
    have i0 : GpS w3 l 0 (.slice none 0 0) w3 := ⟨Below.refl _ _, [], OwnOf.nil _ _ _ _ _, fun x hx => (by cases hx), rfl⟩
    have I0 := Lib.hid i0
    have Hrn := Lib.hid hrn.symm
    have hrn2 : rn ≤ 1048576 := by omega
    have hrow3 := hrow
    have HRow := Lib.hid hrow3
    clear i0 hrn r2 b02 b2 b3
    go_loopw [6, 21] (fun o ix wr => ∃ k : Nat, k ≤ rn ∧ ix = .int .i64 (k : Int) ∧ Hid (GpS w3 l k o wr)) (fun _ ix _ => rn - (intOf ix).toNat)
    case atStart => exact ⟨0, by omega, rfl, I0⟩
    case round =>
      clear I0
      obtain ⟨k, hk, rfl, i1⟩ := hrel
      have hbr := i1.out.b
      obtain ⟨O6, rfl⟩ : ∃ x, x = u6 := ⟨_, rfl⟩
      by_cases hlt : k < rn
      · have hki : (k : Int) < (rn : Int) := by omega
        have hwi : IntKind.i64.wrap ((k : Int) + 1) = ((k + 1 : Nat) : Int) := by rw [IntWalk.i64_in _ (by omega)]; omega
        have hkl : k < l.length := by rw [Hrn.out]; exact hlt
        obtain ⟨b, off, rfl, hrr⟩ := RowOf.range (f := rcells) (size := 2) (fun _ => rfl) (HRow.out.below hbr) k hkl
        have hx : l[k]? = some l[k] := List.getElem?_eq_getElem hkl
        obtain ⟨hq1, hq2⟩ := Hl2.out l[k] (List.getElem_mem hkl)
        obtain ⟨y, hy⟩ : ∃ y, y = l[k] := ⟨_, rfl⟩
        rw [← hy] at hrr hx hq1 hq2
        obtain ⟨y1, y2⟩ := y
        dsimp only at hq1 hq2
        have hr2 : wr.rangeAt b (off + k * 2) [.string ⟨y1.toArray⟩, .string ⟨y2.toArray⟩] := hrr
        have n0 : ∀ (g : Nat) (u : World), Blk 80 u g [.string ⟨y1.toArray⟩, .string ⟨y2.toArray⟩] → u.cell? ⟨g, 0, none⟩ = some (.string ⟨y1.toArray⟩) ∧ u.cell? ⟨g, 1, none⟩ = some (.string ⟨y2.toArray⟩) := fun g u hb => ⟨(hb.cell 0).trans rfl, (hb.cell 1).trans rfl⟩
        obtain ⟨xs, h1, h2, h3⟩ := i1.out.out
        have hxl : xs.length = k := by
          have := congrArg List.length h3
          unfold prsL at this
          simp only [List.length_map, List.length_take] at this
          omega
        obtain ⟨oa, oc, rfl, _⟩ := h1.form' k hxl
        have bA : Below wr.heap.size wr (wr.alloc (.cells #[.string ByteArray.empty, .string ByteArray.empty] 80)) := (Below.refl _ _).alloc (Nat.le_refl _) _
        obtain ⟨KK, hKK⟩ : ∃ K, K = joinR y1 := ⟨_, rfl⟩
        obtain ⟨JE, hJE⟩ : ∃ K, K = joinE y1 := ⟨_, rfl⟩
        obtain ⟨n1, hn1⟩ : ∃ n, n = y1.length := ⟨_, rfl⟩
        obtain ⟨n2, hn2⟩ : ∃ n, n = y2.length := ⟨_, rfl⟩
        have cj := fun (a : Option Addr) (c : Nat) (u : World) (h : Bytes u (.slice a y1.length c) y1) => njoin_any a c y1 u h (by omega)
        rw [← hKK, ← hJE, ← hn1] at cj
        have Cj := Lib.hid cj
        have N0 := Lib.hid n0
        have HR2 := Lib.hid hr2
        have Hx := Lib.hid hx
        have H1 := Lib.hid h1
        have H2 := Lib.hid h2
        have H3 := Lib.hid h3
        have Hxl := Lib.hid hxl
        have HKK := Lib.hid hKK
        have Hn1 := Lib.hid hn1.symm
        have Hn2 := Lib.hid hn2.symm
        have I1 := Lib.hid i1.out.b
        have hS := I1.out.size
        obtain ⟨wo, rfl⟩ : ∃ x, x = wr := ⟨wr, rfl⟩
        clear cj n0 hr2 hx h1 h2 h3 hxl hKK hJE hn1 hn2 i1 hrr hy hlt hkl hrow HRow
        go_upto_region 8 with (first
          | ((with_reducible show wpList _ _ _ (⟨some 24, _, _, _, _, _⟩ :: _) _ _); refine wpList_loadW (o := ⟨some 24, _, _, _, _, _⟩) 80 (.tmp 23) (by rfl) b (off + k * 2) (by rfl) aggRoute (by rfl) HR2.out (by rfl) ?_)
          | ((with_reducible show wpList _ _ _ (⟨none, Op.store _ _ (Operand.tmp 24), _, _, _, _⟩ :: _) _ _); refine wpList_storeA (o := ⟨none, _, _, _, _, _⟩) (by rfl) 80 (.tmp 8) (.tmp 24) (by rfl) wo.heap.size [.string ⟨y1.toArray⟩, .string ⟨y2.toArray⟩] (by rfl) (by rfl) aggRoute (Blk.new wo 80 [.string ByteArray.empty, .string ByteArray.empty]) (by rfl) (by rfl) (by intro u hu; simp at hu; rcases hu with rfl | rfl <;> rfl) bA (Nat.le_refl _) ?_; intro w5 h7 b5 _; obtain ⟨i0, i1⟩ := N0.out _ _ h7))
        go_upto_region 9 with (first
          | ((with_reducible show wpList _ _ _ (⟨some 28, _, _, _, _, _⟩ :: _) _ _); refine wpList_bytesT (o := ⟨some 28, _, _, _, _, _⟩) (by rfl) (.tmp 27) (by rfl) y1 (by rfl) (by unfold maxLen; omega) ?_; intro a28 c28 w6 r28 b6; rw [Hn1.out] at r28 ⊢)
          | (go_at_call 28; (with_reducible refine (Cj.out a28 c28 w6 r28.r).mono ?_); rintro e w7 ⟨v7, rfl, o7, b7⟩; obtain ⟨a7, c7, rfl, _⟩ := o7.form))
        have b7' := Below.then b5 (Below.then b6 b7)
        have i17 : w7.cell? ⟨wo.heap.size, 1, none⟩ = some (.string ⟨y2.toArray⟩) := (N0.out _ _ (h7.kept (Below.then b6 b7))).2
        obtain ⟨jn, hjn⟩ : ∃ n, n = KK.length := ⟨_, rfl⟩
        have hv7 : Value.slice a7 KK.length c7 = .slice a7 jn c7 := by rw [hjn]
        rw [hv7] at o7
        rw [← hjn]
        have HB7 := Lib.hid b7'
        have O7 := Lib.hid (Bt.of o7)
        clear b5 b6 b7 b7' h7 i0 i1 r28 o7 hv7 hjn N0 HR2 Cj
        go_wp2_with (first
          | ((with_reducible show wpList _ _ _ (⟨some 36, _, _, _, _, _⟩ :: _) _ _); refine wpList_bytesT (o := ⟨some 36, _, _, _, _, _⟩) (by rfl) (.tmp 35) (by rfl) y2 (by rfl) (by unfold maxLen; omega) ?_; intro a36 c36 w8 r36 b8'; rw [Hn2.out] at r36 ⊢; have hb9 := (Below.then HB7.out b8').alloc (Below.then HB7.out b8').size (.cells #[.slice a7 jn c7, .slice a36 n2 c36] 75); have O8 := Lib.hid (O7.out.kept b8'))
          | ((with_reducible show wpList _ _ _ (⟨some 39, _, _, _, _, _⟩ :: _) _ _); refine wpList_appB (o := ⟨some 39, _, _, _, _, _⟩) (by rfl) (.tmp 32) (.tmp 38) 26 (by rfl) elPairQ (m := [⟨.slice a7 jn c7, KK, .slice a36 n2 c36, y2⟩]) (by intro u hu; simp [kvq] at hu; rcases hu with rfl | rfl <;> rfl) (by rfl) (H1.out.kept hb9) (by rfl) (q_row (Blk.new w8 75 [.slice a7 jn c7, .slice a36 n2 c36])) (Below.then I1.out hb9).size (by simp only [List.length_cons, List.length_nil]; rw [Hxl.out]; omega) (by simp only [List.length_cons, List.length_nil]; rw [Hxl.out]; unfold maxLen; omega) ?_; intro v' y6 o6 g6 _; obtain ⟨va', vc', rfl, _⟩ := o6.form' (k + 1) (by rw [List.length_append, Hxl.out]; rfl); have hfin := GpS.app (Below.then I1.out hb9) (H1.out.kept hb9) (fun z hz => (H2.out z hz).kept hb9) H3.out (y1, y2) Hx.out ⟨.slice a7 jn c7, KK, .slice a36 n2 c36, y2⟩ (by unfold qtel; rw [HKK.out]) ⟨O8.out.kept ((Below.refl _ _).alloc (Nat.le_refl _) _), r36.kept ((Below.refl _ _).alloc (Nat.le_refl _) _)⟩ o6 g6))
        have Hfin := Lib.hid hfin
        clear hfin
        go_roundw
        case rel => exact ⟨k + 1, by omega, by go_num, Hfin⟩
        case measure => simp [intOf]; omega
      · obtain rfl : k = rn := by omega
        obtain ⟨xs, h1, h2, h3⟩ := i1.out.out
        obtain ⟨oa, oc, rfl, _⟩ := h1.form
        have hb1 := i1.out.b
        go_wp2_with fail
        refine bodyPost_ret (results_tmp2 rfl _ _ _) rfl ?_
        exact ⟨_, rfl, xs, h1.row, fun x hx => ⟨(h2 x hx).k.r, (h2 x hx).v.r⟩, by rw [h3, ← Hrn.out, List.take_length, Hl1.out]; rfl, Below.then b03 hb1⟩
end Go.Proofs.Ytljbbpcnoajfeaa
