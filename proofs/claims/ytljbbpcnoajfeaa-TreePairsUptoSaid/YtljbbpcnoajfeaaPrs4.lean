/- tree.all's iterator at a fork. -/
import Derived.Test.YtljbbpcnoajfeaaPrs3
set_option linter.unusedSimpArgs false
set_option linter.unusedVariables false
namespace Go.Proofs.Ytljbbpcnoajfeaa
open Go.RowKit
attribute [local go_sem] Oper.semAt_some
theorem aggKids2 : Agg Try.prog 132 16 := ⟨_, Try.underlying132, rfl, by kernel_rfl⟩
theorem index_node2 (KC : List Value) (i : Nat) (hi : i < 16) (v : Value) (h : KC[i]? = some v) (w : World) : (Instr.index 132 (.agg KC.toArray) (.int .i64 (i : Int))).run Try.prog w = .ok v w := by
  have hsz : (sizeOf 69).run Try.prog w = .ok 1 w := by kernel_rfl
  have hagg : (isAgg 69).run Try.prog w = .ok false w := by kernel_rfl
  have hp : (part 69 KC.toArray i).run Try.prog w = .ok v w := by
    unfold part
    rw [Sem.run_bind, hagg]
    simp [h]
  unfold Instr.index
  simp only [asIntOf, Sem.run_bind, Sem.run_pure, run_underlying (show Try.prog.underlying 132 = some (.array 16 69) from Try.underlying132), Result.andThen_ok]
  rw [if_pos (by omega)]
  simp only [Sem.run_bind, hsz, Result.andThen_ok]
  simpa using hp
theorem u8v_of' (n : Nat) (h : n < 256) : u8v (UInt8.ofNat n) = .int .u8 (n : Int) := by
  unfold u8v
  congr 1
  rw [UInt8.toNat_ofNat']
  omega
theorem nv_one (t : Nd) : (nv t).oneCell' = true := by
  rcases nv_shape t with h | ⟨ty, x, h⟩ <;> rw [h] <;> rfl
/-- a mark of a range's deferred calls -/
def mkD (D : Nat) : Deferred := { target := .collected D, args := #[] }
/-- marks that have nothing deferred -/
structure MkOk (B : Nat) (ds : List Nat) (W : World) : Prop where
  nd : ds.Nodup
  at_ : ∀ D ∈ ds, B ≤ D ∧ W.heap[D]? = some (.deferred (some []))
theorem MkOk.grown {B : Nat} {ds : List Nat} {W W' : World} {row : Option Nat} (h : MkOk B ds W) (hg : W.grownBy W' row) (hr : ∀ D ∈ ds, row ≠ some D) : MkOk B ds W' :=
  ⟨h.nd, fun D hD => ⟨(h.at_ D hD).1, (hg.block D (Array.getElem?_eq_some_iff.1 (h.at_ D hD).2).1 (fun e => hr D hD e.symm)).trans (h.at_ D hD).2⟩⟩
theorem MkOk.keeps {B : Nat} {ds : List Nat} {W W' : World} (h : MkOk B ds W) (hk : KeepsFrom B W W') : MkOk B ds W' :=
  ⟨h.nd, fun D hD => ⟨(h.at_ D hD).1, hk.same D _ (h.at_ D hD).1 (h.at_ D hD).2 rfl⟩⟩
theorem MkOk.stab {B C : Nat} {ds : List Nat} (hC : ∀ D ∈ ds, D < C) : Stab C (MkOk B ds) := fun W W' row h hg hr => h.grown hg (fun D hD e => by have := (hr D e).1; have := hC D hD; omega)
theorem MkOk.more {B : Nat} {ds : List Nat} {W : World} {D C : Nat} (h : MkOk B ds W) (hC : ∀ D ∈ ds, D < C) (hD : C ≤ D) (hB : B ≤ D) (hW : W.heap[D]? = some (.deferred (some []))) : MkOk B (D :: ds) W :=
  ⟨List.nodup_cons.2 ⟨fun e => by have := hC D e; omega, h.nd⟩, fun E hE => by
    rcases List.mem_cons.1 hE with rfl | hE
    · exact ⟨hB, hW⟩
    · exact h.at_ E hE⟩
theorem MkOk.lt {B : Nat} {ds : List Nat} {W : World} (h : MkOk B ds W) : ∀ D ∈ ds, D < W.heap.size := fun D hD => (Array.getElem?_eq_some_iff.1 (h.at_ D hD).2).1
/-- a function with such marks ends -/
theorem leave_marks {P : Program} {fn : Func} {tmps : Array Value} {R : Ending → World → Prop} (hfn : fn.results = #[]) {B : Nat} {G : World → Prop} (hG : Stab B G) (hR : ∀ v W, G W → R (.returned v) W) : ∀ (ds : List Nat) (W : World), MkOk B ds W → G W → LeavesInM (FW none) 8 P fn tmps R (ds.map mkD) .returning W := by
  intro ds
  induction ds with
  | nil => intro W _ hg; exact ⟨_, results_none hfn _ _ _, hR _ _ hg⟩
  | cons D ds ih =>
    intro W hm hg
    obtain ⟨hB, hD⟩ := hm.at_ D List.mem_cons_self
    have hn := List.nodup_cons.1 hm.nd
    refine ⟨by simp, .inl ⟨D, _, rfl, run_takeDeferred hD, ?_⟩⟩
    refine ih _ (MkOk.grown (W := W) (row := some D) ⟨hn.2, fun E hE => hm.at_ E (List.mem_cons_of_mem _ hE)⟩ (grownBy_putObj' W D _) (fun E hE e => by cases e; exact hn.1 hE)) (hG.put _ hg hB hD rfl)
/-- what a fork's iterator has of its own -/
structure FkF (w0 : World) (l : Nat) (YB B2 : Nat) (pa : Option Addr) (pn pc : Nat) (pl : List UInt8) (W : World) : Prop where
  b : Below w0.heap.size w0 W
  y : Blk 126 W YB [.func (.yield l) #[] #[]]
  p : Blk 22 W B2 [.slice pa pn pc]
  o : OwnOf b8 1 5 W 0 (.slice pa pn pc) pl
theorem FkF.kt {w0 : World} {l YB B2 : Nat} {pa : Option Addr} {pn pc : Nat} {pl : List UInt8} {W W' : World} (h : FkF w0 l YB B2 pa pn pc pl W) (hk : Kt w0 W W') : FkF w0 l YB B2 pa pn pc pl W' :=
  ⟨h.b.trans hk.b, hk.k _ _ _ (by decide) (by decide) h.y, hk.k _ _ _ (by decide) (by decide) h.p, h.o.kt hk⟩
theorem FkF.stab {w0 : World} {l YB B2 : Nat} {pa : Option Addr} {pn pc : Nat} {pl : List UInt8} {B : Nat} (hB : w0.heap.size ≤ B) : Stab B (FkF w0 l YB B2 pa pn pc pl) := fun W W' row h hg hr =>
  ⟨h.b.grown hg h.b.size (fun k hk => Nat.le_trans hB (hr k hk).1), h.y.ncT hg (fun r e => (hr r e).2), h.p.ncT hg (fun r e => (hr r e).2), h.o.blkKept (fun g cs hb => hb.ncT hg (fun r e => (hr r e).2))⟩
theorem cat_app (l1 l2 : List (List Rt)) : ∀ i, cat i (l1 ++ l2) = cat i l1 ++ cat (i + l1.length) l2 := by
  induction l1 with
  | nil => intro i; simp [cat]
  | cons x l1 ih => intro i; simp only [List.cons_append, cat, ih, List.length_cons, List.append_assoc]; rw [show i + 1 + l1.length = i + (l1.length + 1) by omega]
/-- what has come ahead of kid i -/
def fkL (pl : List UInt8) (v : List UInt8) (ls : List (List Rt)) (i : Nat) : List Rt := pre pl ((if v = [] then [] else [([], v)]) ++ cat 0 (ls.take i))
theorem pre_app2 (p : List UInt8) (a b : List Rt) : pre p (a ++ b) = pre p a ++ pre p b := by unfold pre; rw [List.map_append]
theorem fkL_step (pl v : List UInt8) (ls : List (List Rt)) (i : Nat) (m : List Rt) (hi : ls[i]? = some m) : fkL pl v ls (i + 1) = fkL pl v ls i ++ pre (pl ++ [UInt8.ofNat i]) m := by
  obtain ⟨h, rfl⟩ := List.getElem?_eq_some_iff.1 hi
  unfold fkL
  rw [List.take_succ_eq_append_getElem h, cat_app, List.length_take, Nat.min_eq_left (by omega), Nat.zero_add, ← List.append_assoc, pre_app2]
  congr 1
  show pre pl (pre [UInt8.ofNat i] ls[i] ++ cat (i + 1) []) = _
  rw [show cat (i + 1) [] = [] from rfl, List.append_nil, pre_pre]
theorem fkL_all (pl v : List UInt8) (ls : List (List Rt)) (i : Nat) (hi : ls.length ≤ i) : fkL pl v ls i = pre pl ((if v = [] then [] else [([], v)]) ++ cat 0 ls) := by unfold fkL; rw [List.take_of_length_le hi]
theorem fkL_pre (pl v : List UInt8) (ls : List (List Rt)) (i : Nat) : fkL pl v ls i <+: pre pl ((if v = [] then [] else [([], v)]) ++ cat 0 ls) := by
  have : ls = ls.take i ++ ls.drop i := (List.take_append_drop i ls).symm
  unfold fkL
  conv => rhs; rw [this, cat_app, ← List.append_assoc, pre_app2]
  exact List.prefix_append _ _
theorem at_pre {α : Type} {a b L : List α} (h : a ++ b <+: L) (k : Nat) (x : α) (hk : b[k]? = some x) : L[a.length + k]? = some x := by
  obtain ⟨t, rfl⟩ := h
  have h1 := (List.getElem?_eq_some_iff.1 hk).1
  rw [List.append_assoc, List.getElem?_append_right (by omega), List.getElem?_append_left (by omega)]
  rw [show a.length + k - a.length = k by omega]; exact hk
set_option maxHeartbeats 8000000 in
set_option maxRecDepth 100000 in
theorem all1_fork (w0 : World) (pa : Option Addr) (pn pc : Nat) (pl : List UInt8) (va : Option Addr) (vn vc : Nat) (v : List UInt8) (ks : List Nd) (ls : List (List Rt)) (hks : ks.length = 16) (hls : ls.length = 16) (hpn : pl.length = pn) (hvn : v.length = vn) (hb1 : pn ≤ 100000000) (hv : Bytes w0 (.slice va vn vc) v)
    (ih : ∀ (i : Nat) (k : Nd) (m : List Rt), ks[i]? = some k → ls[i]? = some m → ∀ (a : Option Addr) (n c : Nat), (pl ++ [UInt8.ofNat i]).length = n → AllQ w0 (nv k) a n c (pl ++ [UInt8.ofNat i]) (pre (pl ++ [UInt8.ofNat i]) m)) :
    AllQ w0 (.iface 134 (.agg (nvL ks ++ [Value.slice va vn vc]).toArray)) pa pn pc pl (pre pl ((if v = [] then [] else [([], v)]) ++ cat 0 ls)) := by
  intro B1 B2 W hS l J Jx hJ hJx hY h0
  refine (callsIn_wide (n := 8)).1 ?_
  show CallsIn (FW none) 8 _ _ _ _ _
  obtain ⟨FC, hFC⟩ : ∃ FC, FC = nvL ks ++ [Value.slice va vn vc] := ⟨_, rfl⟩
  obtain ⟨KC, hKC⟩ : ∃ KC, KC = nvL ks := ⟨_, rfl⟩
  have hKl : KC.length = 16 := by rw [hKC, nvL_map]; simp [hks]
  have hFl : FC.length = 17 := by rw [hFC, ← hKC]; simp [hKl]
  have hFo : ∀ u ∈ FC, u.oneCell' = true := by
    rw [hFC]
    intro u hu
    rcases List.mem_append.1 hu with hu | hu
    · rw [nvL_map] at hu
      obtain ⟨k, _, rfl⟩ := List.mem_map.1 hu
      exact nv_one k
    · rw [List.mem_singleton] at hu; rw [hu]; rfl
  have hF16 : FC[16]? = some (.slice va vn vc) := by rw [hFC, ← hKC, List.getElem?_append_right (by omega), hKl]; rfl
  have hFk : (FC.drop 0).take 16 = KC := by rw [hFC, ← hKC]; exact List.take_left' hKl
  have hKat : ∀ i k, ks[i]? = some k → KC[i]? = some (nv k) := fun i k hk => by rw [hKC, nvL_map, List.getElem?_map, hk]; rfl
  rw [← hFC] at hS
  obtain ⟨w1, hw1⟩ : ∃ w1, w1 = W.alloc (.cells #[.func (.yield l) #[] #[]] 126) := ⟨_, rfl⟩
  have hbel : Below W.heap.size W w1 := by rw [hw1]; exact (Below.refl _ _).alloc (Nat.le_refl _) _
  have c1 : w1.cell? ⟨B1, 0, none⟩ = some (.iface 134 (.agg FC.toArray)) := (hS.n.kept hbel).cell 0
  have f1 : FkF w0 l W.heap.size B2 pa pn pc pl w1 := ⟨hS.b.trans (hbel.mono hS.b.size), by rw [hw1]; exact Blk.new W _ _, hS.p.kept hbel, hS.o.kept hbel⟩
  have hws : w0.heap.size ≤ W.heap.size := hS.b.size
  have hJ1 : J 0 w1 := (hJ 0).below h0 hbel
  have z1 := as3_1
  have z2 := as3_2
  have z3 := as3_3
  have HWe := Lib.hid hw1
  have F1 := Lib.hid f1
  have HJ := Lib.hid hJ
  have HJx := Lib.hid hJx
  have HY := Lib.hid hY
  have HJ1 := Lib.hid hJ1
  have HKl := Lib.hid hKl
  have HFl := Lib.hid hFl
  have HFo := Lib.hid hFo
  have HF16 := Lib.hid hF16
  have HFk := Lib.hid hFk
  have HKat := Lib.hid hKat
  have Hih := Lib.hid ih
  have Hws := Lib.hid hws
  have Hbel := Lib.hid hbel
  have Hpn := Lib.hid hpn
  have Hvn := Lib.hid hvn
  have Hks := Lib.hid hks
  have Hls := Lib.hid hls
  have Hv := Lib.hid hv
  clear hw1 hS f1 hJ hJx hY h0 hJ1 hKl hFl hFo hF16 hFk hKat ih hFC hKC hws hbel hpn hvn hks hls hv
  obtain ⟨LL, hLL⟩ : ∃ L, L = pre pl ((if v = [] then [] else [([], v)]) ++ cat 0 ls) := ⟨_, rfl⟩
  rw [← hLL] at HY ⊢
  have HLL := Lib.hid hLL
  clear hLL
  refine callsIn_of_wp_marks Try.func52 rfl trivial ?_
  simp only [Try.ntmps52, List.size_toArray, List.length_cons, List.length_nil, Nat.reduceAdd, Nat.reduceSub, Array.replicate_succ, Array.replicate_zero, List.push_toArray, List.append_toArray, List.nil_append, List.cons_append]
  gi_upto_region 1 with fail
  rw [← HWe.out]
  gi_upto_region 9 with fail
  refine regionFW (k := 2) (by rfl) ?_
  simp only [List.take_succ_cons, List.take_zero, List.drop_succ_cons, List.drop_zero]
  go_wp2_with ((with_reducible show wpList _ _ _ (⟨none, Op.store _ _ (Operand.tmp 37), _, _, _, _⟩ :: _) _ _); refine wpList_storeA (o := ⟨none, _, _, _, _, _⟩) (by rfl) 134 (.tmp 6) (.tmp 37) (by rfl) w1.heap.size FC (by rfl) (by rfl) aggFork (Blk.newA w1 134 _) HFl.out (by rfl) HFo.out ((Below.refl w1.heap.size w1).alloc (Nat.le_refl _) _) (Nat.le_refl _) ?_; intro w2 h2 b2 _)
  refine ⟨rfl, ?_⟩
  have hbW2 := Below.then Hbel.out b2
  have F2 := Lib.hid (F1.out.kt (Kt.of (Nat.le_trans Hws.out Hbel.out.size) b2))
  have HJ2 := Lib.hid ((HJ.out 0).below HJ1.out b2)
  have c16 : w2.cell? ⟨w1.heap.size, 16, none⟩ = some (.slice va vn vc) := by rw [h2.cell 16]; exact HF16.out
  have H2 := Lib.hid h2
  have HbW2 := Lib.hid hbW2
  clear HWe F1 HJ1 h2 hbW2 b2
  gi_upto_region 10 with fail
  have k16 := fun u : Ext w2 => u.cell c16
  gi_cut [50] from 38 (fun q wc => (q = .bool false ∧ Hid (Kt w0 w2 wc ∧ J (fkL pl v ls 0).length wc)) ∨ (q = .bool true ∧ Jx wc))
  case first =>
    by_cases hv0 : vn = 0
    · subst hv0
      refine regionFW_tail w2 13 (by kernel_rfl) (by kernel_rfl) (by rfl) (Below.refl _ _) ?_
      simp only [List.take_succ_cons, List.take_zero, List.take_nil]
      iterate 13 (refine wpX_step (by rfl) (fun K hK => ?_); go_simp; first | (refine hK _ ?_; clear hK K) | (apply Exists.intro; refine ⟨fun _ => ?_, hK _ ?_⟩; fail; clear hK K))
      refine wpX_nil ?_
      intro w4 hb4
      change forallRel w4 [] _ _
      simp only [forallRel, List.drop_succ_cons, List.drop_zero, List.drop_nil]
      have hKt4 : Kt w0 w2 w4 := Kt.of (Nat.le_trans Hws.out HbW2.out.size) hb4
      have hJ4 : J (fkL pl v ls 0).length w4 := by
        have hv0 : v = [] := List.eq_nil_of_length_eq_zero Hvn.out
        rw [show fkL pl v ls 0 = [] from by unfold fkL; rw [if_pos hv0]; rfl]
        exact (HJ.out 0).below HJ2.out hb4
      clear k16
      gi_wp2_with fail
      gi_meet
      case rel => exact .inl ⟨rfl, Lib.hid ⟨hKt4, hJ4⟩⟩
    · have hv1 : v ≠ [] := fun e => hv0 (by rw [← Hvn.out, e]; rfl)
      have hgt : (0 : Int) < (vn : Int) := by omega
      have hgt' : 0 < vn := by omega
      have hx0 : LL[0]? = some (pl, v) := by
        rw [HLL.out, if_neg hv1]
        show some ((pl ++ [] : List UInt8), v) = _
        rw [List.append_nil]
      have hl1 : (fkL pl v ls 0).length = 0 + 1 := by unfold fkL; rw [if_neg hv1]; rfl
      have c3 : w2.cell? ⟨W.heap.size, 0, none⟩ = some (.func (.yield l) #[] #[]) := F2.out.y.cell 0
      have c2 : w2.cell? ⟨B2, 0, none⟩ = some (.slice pa pn pc) := F2.out.p.cell 0
      have co := fun (u : World) (hu : Below w2.heap.size w2 u) => pown_any pa pn pc pl (by omega) u (F2.out.o.row.below hu)
      have hY2 := fun (args : Array Value) (u : World) (hu : Below w2.heap.size w2 u) (hy : yT w0 (pl, v) args u) => HY.out 0 (pl, v) args u hx0 ((HJ.out 0).below HJ2.out hu) hy
      have Co := Lib.hid co
      have HY2 := Lib.hid hY2
      have k3 := fun u : Ext w2 => u.cell c3
      have k2 := fun u : Ext w2 => u.cell c2
      clear co hY2 hx0
      refine regionFW_tail w2 10 (by kernel_rfl) (by kernel_rfl) (by rfl) (Below.refl _ _) ?_
      simp only [List.take_succ_cons, List.take_zero, List.take_nil]
      iterate 7 (refine wpX_step (by rfl) (fun K hK => ?_); go_simp; first | (refine hK _ ?_; clear hK K) | (apply Exists.intro; refine ⟨fun _ => ?_, hK _ ?_⟩; fail; clear hK K))
      refine wpX_rel 45 (OnT pl) rfl (of_decide_eq_true rfl) (OnT.mono _) (fun u hu => ?_) ?_
      · change forallRel u [] _ _
        simp only [forallRel]
        refine ⟨by rfl, ?_⟩
        go_simp
        refine (Co.out u hu).mono ?_
        rintro e w8 ⟨v8, rfl, o8, b8⟩
        exact ⟨_, rfl, o8.lower (Nat.zero_le _), b8⟩
      iterate 2 (refine wpX_step (by rfl) (fun K hK => ?_); go_simp; first | (refine hK _ ?_; clear hK K) | (apply Exists.intro; refine ⟨fun _ => ?_, hK _ ?_⟩; fail; clear hK K))
      refine wpX_nil ?_
      intro y hb v45 h45
      change wpListIn (FW none) 8 _ _ _ [_, _, _] _ _
      try simp only [Act.put, List.setIfInBounds_toArray, List.set_cons_zero, List.set_cons_succ]
      obtain ⟨ja, jc, rfl, _⟩ := OwnOf.form' h45 pn Hpn.out
      obtain ⟨fn, tmps, assign, body, hy, hR⟩ := HY2.out #[.slice ja pn jc, .slice va vn vc] y hb ⟨_, _, _, _, _, _, rfl, h45, Hv.out⟩
      have HR := Lib.hid hR
      clear hR k3 k2 k16
      gi_wp2_with fail
      refine (roundFW HR.out).mono ?_
      rintro e w4 (⟨rfl, hJ3, hk3, hf3⟩ | ⟨rfl, hJx3, _⟩)
      · have hKt4 : Kt w0 w2 w4 := (Kt.of (Nat.le_trans Hws.out HbW2.out.size) hb).tr hk3
        rw [← hl1] at hJ3
        gi_wp2_with fail
        gi_meet
        case rel => exact .inl ⟨rfl, Lib.hid ⟨hKt4, hJ3⟩⟩
      · gi_wp2_with fail
        gi_meet
        case rel => exact .inr ⟨rfl, hJx3⟩
  case rest =>
    rcases hcut with ⟨rfl, hc⟩ | ⟨rfl, hc⟩
    · have F4 := Lib.hid (F2.out.kt hc.out.1)
      have h4 := hc.out.1.k _ _ _ (by decide) (by decide) H2.out
      have r4 : wc.rangeAt w1.heap.size 0 KC := by have := h4.range 0 16; rw [HFk.out] at this; exact this
      have J4 := Lib.hid hc.out.2
      have hsz4 : W.heap.size ≤ wc.heap.size := Nat.le_trans HbW2.out.size hc.out.1.b.size
      have Hsz4 := Lib.hid hsz4
      clear hc h4 F2 H2 HJ2 c16 c1 z1 z2 z3 hsz4
      obtain ⟨w4, rfl⟩ : ∃ x, x = wc := ⟨wc, rfl⟩
      gi_upto_region 11 with fail
      refine regionFW (k := 3) (by rfl) ?_
      simp only [List.take_succ_cons, List.take_zero, List.drop_succ_cons, List.drop_zero]
      go_wp2_with ((with_reducible show wpList _ _ _ (⟨some 52, _, _, _, _, _⟩ :: _) _ _); refine wpList_loadW (o := ⟨some 52, _, _, _, _, _⟩) 132 (.tmp 51) (by rfl) w1.heap.size 0 (by rfl) aggKids2 HKl.out r4 (by rfl) ?_)
      refine ⟨rfl, ?_⟩
      clear r4
      gi_wp2_with fail
      refine wpIn_loop (fun a wr => ∃ x4 x5 x6 x7 x8 x9 x10 x11 x12 x13 x14 x15 x16 x17 x18 x19 x20 x21 x22 x23 x24 x25 x26 x27 x28 x29 x30 x31 x32 x33 x34 x35 x36 x37 x38 x39 x40 x41 x42 x43 x44 x45 x46 x47 x48 x49 x50 x51 x54 x55 x56 x57 x58 x59 x60 x61 x62 x63 x64 x65 x66 x67 x68 x69 x70 x71 x72 : Value, ∃ (i : Nat) (ds : List Nat), a = { tmps := #[.func (.yield l) #[] #[], .pointer (some ⟨B1, 0, none⟩), .pointer (some ⟨B2, 0, none⟩), .pointer (some ⟨W.heap.size, 0, none⟩), x4, x5, x6, x7, x8, x9, x10, x11, x12, x13, x14, x15, x16, x17, x18, x19, x20, x21, x22, x23, x24, x25, x26, x27, x28, x29, x30, x31, x32, x33, x34, x35, x36, x37, x38, x39, x40, x41, x42, x43, x44, x45, x46, x47, x48, x49, x50, x51, .agg KC.toArray, .int .i64 (i : Int), x54, x55, x56, x57, x58, x59, x60, x61, x62, x63, x64, x65, x66, x67, x68, x69, x70, x71, x72], defers := ds.map mkD } ∧ i ≤ 16 ∧ Hid (J (fkL pl v ls i).length wr ∧ FkF w0 l W.heap.size B2 pa pn pc pl wr ∧ MkOk W.heap.size ds wr ∧ W.heap.size ≤ wr.heap.size)) (fun a _ => 16 - (intOf (a.tmps.getD 53 undef)).toNat) ?start ?round
      case start =>
        exact ⟨_, _, _, _, _, _, _, _, _, _, _, _, _, _, _, _, _, _, _, _, _, _, _, _, _, _, _, _, _, _, _, _, _, _, _, _, _, _, _, _, _, _, _, _, _, _, _, _, _, _, _, _, _, _, _, _, _, _, _, _, _, _, _, _, _, _, _, 0, [], rfl, by omega, Lib.hid ⟨J4.out, F4.out, ⟨List.nodup_nil, fun D hD => by cases hD⟩, Hsz4.out⟩⟩
      case round =>
        rintro a wr ⟨x4, x5, x6, x7, x8, x9, x10, x11, x12, x13, x14, x15, x16, x17, x18, x19, x20, x21, x22, x23, x24, x25, x26, x27, x28, x29, x30, x31, x32, x33, x34, x35, x36, x37, x38, x39, x40, x41, x42, x43, x44, x45, x46, x47, x48, x49, x50, x51, x54, x55, x56, x57, x58, x59, x60, x61, x62, x63, x64, x65, x66, x67, x68, x69, x70, x71, x72, i, ds, rfl, hi, hrel⟩
        clear J4 F4
        by_cases hlt : i < 16
        · have hki : (i : Int) < 16 := by omega
          have hwi : IntKind.i64.wrap ((i : Int) + 1) = ((i + 1 : Nat) : Int) := by rw [IntWalk.i64_in _ (by omega)]; omega
          have hwr := (by decide : ∀ i : Nat, i < 16 → IntKind.u8.wrap (i : Int) = (i : Int)) i hlt
          obtain ⟨k, hk⟩ : ∃ k, ks[i]? = some k := ⟨_, List.getElem?_eq_getElem (by rw [Hks.out]; exact hlt)⟩
          obtain ⟨m, hm⟩ : ∃ m, ls[i]? = some m := ⟨_, List.getElem?_eq_getElem (by rw [Hls.out]; exact hlt)⟩
          have hix := index_node2 KC i hlt _ (HKat.out i k hk)
          have hst := fkL_step pl v ls i m hm
          have hpr : fkL pl v ls i ++ pre (pl ++ [UInt8.ofNat i]) m <+: LL := by rw [← hst, HLL.out]; exact fkL_pre pl v ls (i + 1)
          have hic := Hih.out i k m hk hm
          have hb : b8 (UInt8.ofNat i) = [.int .u8 (i : Int)] := by unfold b8; rw [u8v_of' i (by omega)]
          have c2 : wr.cell? ⟨B2, 0, none⟩ = some (.slice pa pn pc) := hrel.out.2.1.p.cell 0
          have co := pown_any pa pn pc pl (by omega) wr hrel.out.2.1.o.row
          have ca := fun (a : Option Addr) (c : Nat) (u : World) (h : OwnOf b8 1 5 u 0 (.slice a (pn + 1) c) (pl ++ [UInt8.ofNat i])) => tall_cl k a (pn + 1) c (pl ++ [UInt8.ofNat i]) u h
          obtain ⟨V, hV⟩ : ∃ V, V = nv k := ⟨_, rfl⟩
          rw [← hV] at hix hic
          simp only [← hV] at ca
          obtain ⟨X, hX⟩ : ∃ X, X = pl ++ [UInt8.ofNat i] := ⟨_, rfl⟩
          have hXl : X.length = pn + 1 := by rw [hX, List.length_append, Hpn.out]; rfl
          have hrw : ∀ u : World, RowOf b8 1 (u.alloc (.cells #[.int .u8 (i : Int)] 5)) (.slice (some ⟨u.heap.size, 0, none⟩) 1 1) [UInt8.ofNat i] := fun u => by
            refine Blk.row (f := b8) (size := 1) (Blk.new u 5 [.int .u8 (i : Int)]) [UInt8.ofNat i] 1 1 (fun _ => rfl) rfl (fun j x hx => by rw [← hb]; simpa using hx) (Nat.le_refl _) (by unfold maxLen; omega)
          rw [← hX] at hst hpr hic
          simp only [← hX] at ca
          have Hix := Lib.hid hix
          have Hst := Lib.hid hst
          have Hpr := Lib.hid hpr
          have Hic := Lib.hid hic
          have Co := Lib.hid co
          have Ca := Lib.hid ca
          have HX := Lib.hid hX
          have HXl := Lib.hid hXl
          have HRw := Lib.hid hrw
          have Hrel := Lib.hid hrel.out
          obtain ⟨W5, rfl⟩ : ∃ x, x = wr := ⟨wr, rfl⟩
          clear hst hpr hic co ca hX hXl hrw hrel hV hk hm hb
          gi_upto_region 14 with fail
          refine regionFW (k := 8) (by rfl) ?_
          simp only [List.take_succ_cons, List.take_zero, List.drop_succ_cons, List.drop_zero]
          go_wp2_with (first
            | (go_at_call 25; (with_reducible refine Co.out.mono ?_); rintro e w6 ⟨v6, rfl, o6, b6⟩; obtain ⟨a6, c6, rfl, _⟩ := o6.form' pn Hpn.out)
            | ((with_reducible show wpList _ _ _ (⟨some 63, _, _, _, _, _⟩ :: _) _ _); refine wpList_appA (o := ⟨some 63, _, _, _, _, _⟩) (by rfl) (.tmp 59) (.tmp 62) 22 (by rfl) elU8 (by rfl) (OwnOf.kept o6 ((Below.refl _ _).alloc (Nat.le_refl _) (.cells #[.int .u8 (i : Int)] 5))) (by rfl) (HRw.out w6) (by have := b6.size; simp only [World.size_alloc]; omega) (by simp only [List.length_cons, List.length_nil]; rw [Hpn.out]; omega) (by simp only [List.length_cons, List.length_nil]; rw [Hpn.out]; unfold maxLen; omega) ?_; intro v7 w7 o7 g7 _; rw [← HX.out] at o7; obtain ⟨a7, c7, rfl, _⟩ := o7.form' (pn + 1) HXl.out; have b7 := (b6.alloc b6.size (.cells #[.int .u8 (i : Int)] 5)).grown g7 (by have := b6.size; simp only [World.size_alloc]; omega) (fun j hj => OwnOf.lt o6 j hj))
            | (go_at_call 22; (with_reducible refine (Ca.out a7 c7 w7 (o7.lower (Nat.zero_le _))).mono ?_); rintro e w8 ⟨v8, rfl, h8, b8'⟩))
          refine ⟨rfl, ?_⟩
          obtain ⟨g1, g2, aa, an, ac, rfl, hn8, hp8, ho8⟩ := h8
          have b58 : Below W5.heap.size W5 w8 := Below.then b7 b8'
          have hs8 : W.heap.size ≤ w8.heap.size := Nat.le_trans Hrel.out.2.2.2 b58.size
          have hw8 : w0.heap.size ≤ w8.heap.size := Nat.le_trans Hws.out hs8
          have hJ8 := (HJ.out _).below Hrel.out.1 b58
          have hF8 := Hrel.out.2.1.kt (Kt.of (Nat.le_trans Hws.out Hrel.out.2.2.2) b58)
          have hM8 := Hrel.out.2.2.1.keeps (keeps_of_below _ b58)
          have hlt8 : ∀ D ∈ ds, D < w8.heap.size := hM8.lt
          have hsq : Hid (∀ u, Below w8.heap.size w8 u → SeqQ Try.prog 52 #[.pointer (some ⟨g1, 0, none⟩), .pointer (some ⟨g2, 0, none⟩)] (pre X m) (yT w0) (Kt w0) u) := Lib.hid (fun u hu => Hic.out aa an ac ho8.row.fits.1.symm g1 g2 u ⟨hF8.b.trans (hu.mono hF8.b.size), hn8.kept hu, hp8.kept hu, OwnOf.kept ho8 hu⟩)
          have HJ8 := Lib.hid hJ8
          have HF8 := Lib.hid hF8
          have HM8 := Lib.hid hM8
          have Hlt8 := Lib.hid hlt8
          have Hs8 := Lib.hid hs8
          have Hw8 := Lib.hid hw8
          clear hJ8 hF8 hM8 hlt8 hs8 hw8 hn8 hp8 ho8 b58 b8' b7 o7 g7 b6 o6 Hrel Co Ca HRw Hic c2 hix Hix
          gi_wp2_with fail
          refine range_law (κ := Rt) (L := pre X m) (Y := yT w0) (Kp := Kt w0) (gf := 52) (lb := #[.pointer (some ⟨g1, 0, none⟩), .pointer (some ⟨g2, 0, none⟩)]) rfl enters_all1 hsq.out Kt.tr (fun u l o o' h1 h2 h3 => Kt.put Hw8.out u l o o' h1 h2 h3) (fun x args u h => yT.size x args u h) (fun x args => yT.stab x args _)
            (fun k u => J ((fkL pl v ls i).length + k) u ∧ FkF w0 l W.heap.size B2 pa pn pc pl u ∧ MkOk W.heap.size ds u) (fun u => Jx u ∧ MkOk W.heap.size ds u)
            (fun k => ((HJ.out _).mono Hs8.out).and ((FkF.stab Hw8.out).and (MkOk.stab Hlt8.out))) ((HJx.out.mono Hs8.out).and (MkOk.stab Hlt8.out)) ⟨HJ8.out, HF8.out, HM8.out⟩ ?rd ?dn ?st
          case rd =>
            rintro l2 k2 x args u hl2 hx ⟨hJ9, hF9, hM9⟩ hy9
            have hx' := at_pre Hpr.out k2 x hx
            obtain ⟨a9, n9, c9, va9, vn9, vc9, rfl, _, _⟩ := id hy9
            clear hJ9 hF9 hM9 hy9 hx
            show Code.wpIn (FW (some l2)) 8 _ _ _ _ _
            go_simp
            gi_wp2_with fail
            refine ⟨trivial, fun W6 hJ6 hF6 hM6 hy6 => ?_⟩
            have c3 : W6.cell? ⟨W.heap.size, 0, none⟩ = some (.func (.yield l) #[] #[]) := hF6.y.cell 0
            obtain ⟨fn, tmps, assign, body, hyy, hR⟩ := HY.out _ x _ W6 hx' hJ6 hy6
            have HR := Lib.hid hR
            have HF6 := Lib.hid hF6
            have HM6 := Lib.hid hM6
            clear hR hF6 hM6 hy6 hJ6
            show Code.wpIn (FW (some l2)) 8 _ _ _ _ _
            gi_wp2_with fail
            refine (roundFW HR.out).mono ?_
            rintro e W7 (⟨rfl, hJ7, hk7, hf7⟩ | ⟨rfl, hJx7, hf7⟩)
            · have hfin : KeepsFrom w8.heap.size W6 W7 ∧ Kt w0 W6 W7 ∧ J ((fkL pl v ls i).length + (k2 + 1)) W7 ∧ FkF w0 l W.heap.size B2 pa pn pc pl W7 ∧ MkOk W.heap.size ds W7 := ⟨keepsMono hf7 Hs8.out, hk7, hJ7, HF6.out.kt hk7, HM6.out.keeps hf7⟩
              have Hfin := Lib.hid hfin
              clear hfin hJ7 hk7 hf7
              gi_wp2_with fail
              exact ⟨Hfin.out.1, Hfin.out.2.1, Hfin.out.2.2⟩
            · have hfin : KeepsFrom w8.heap.size W6 W7 ∧ Jx W7 ∧ MkOk W.heap.size ds W7 := ⟨keepsMono hf7 Hs8.out, hJx7, HM6.out.keeps hf7⟩
              have Hfin := Lib.hid hfin
              clear hfin hJx7 hf7
              gi_wp2_with fail
              exact ⟨Hfin.out.1, Hfin.out.2⟩
          case dn =>
            rintro D u hD ⟨hJ9, hF9, hM9⟩ hDd
            have hfin : i + 1 ≤ 16 ∧ Hid (J (fkL pl v ls (i + 1)).length u ∧ FkF w0 l W.heap.size B2 pa pn pc pl u ∧ MkOk W.heap.size (D :: ds) u ∧ W.heap.size ≤ u.heap.size) := ⟨by omega, Lib.hid ⟨by rw [Hst.out, List.length_append]; exact hJ9, hF9, hM9.more Hlt8.out hD (Nat.le_trans Hs8.out hD) hDd, by have := (Array.getElem?_eq_some_iff.1 hDd).1; have := Hs8.out; omega⟩⟩
            clear hJ9 hF9 hM9 hDd
            gi_wp2_with fail
            refine ⟨⟨_, _, _, _, _, _, _, _, _, _, _, _, _, _, _, _, _, _, _, _, _, _, _, _, _, _, _, _, _, _, _, _, _, _, _, _, _, _, _, _, _, _, _, _, _, _, _, _, _, _, _, _, _, _, _, _, _, _, _, _, _, _, _, _, _, _, _, i + 1, D :: ds, rfl, hfin.1, hfin.2⟩, ?_⟩
            show 16 - (((i + 1 : Nat) : Int)).toNat < 16 - ((i : Int)).toNat
            omega
          case st =>
            rintro D u hD ⟨hJx9, hM9⟩ hDd
            gi_wp2_with fail
            exact leave_marks rfl HJx.out (fun v u h => ⟨⟨_, rfl⟩, .inr h⟩) (D :: ds) u (hM9.more Hlt8.out hD (Nat.le_trans Hs8.out hD) hDd) hJx9
        · obtain rfl : i = 16 := by omega
          have hll : (fkL pl v ls 16) = LL := by rw [HLL.out]; exact fkL_all pl v ls 16 (by rw [Hls.out]; omega)
          have Hrel := Lib.hid hrel.out
          have Hll := Lib.hid hll
          clear hrel hll
          gi_wp2_with fail
          exact leave_marks rfl (HJ.out LL.length) (fun v u h => ⟨⟨_, rfl⟩, .inl h⟩) ds wr Hrel.out.2.2.1 (by rw [← Hll.out]; exact Hrel.out.1)
    · gi_wp2_with fail
      exact ⟨_, results_none rfl _ _ _, ⟨_, rfl⟩, .inr hc⟩
end Go.Proofs.Ytljbbpcnoajfeaa
