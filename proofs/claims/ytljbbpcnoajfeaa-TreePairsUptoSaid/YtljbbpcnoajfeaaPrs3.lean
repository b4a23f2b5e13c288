/- tree.all's iterator at a road. -/
import Derived.Test.YtljbbpcnoajfeaaPrs2
set_option linter.unusedSimpArgs false
set_option linter.unusedVariables false
namespace Go.Proofs.Ytljbbpcnoajfeaa
open Go.RowKit
attribute [local go_sem] Oper.semAt_some
/-- an iterator of tree.all's, made: over a node and a path -/
def ClT (nvv : Value) (l : List UInt8) : Ty := fun v w => ∃ (g1 g2 : Nat) (a : Option Addr) (n c : Nat), v = .func (.func 52) #[] #[.pointer (some ⟨g1, 0, none⟩), .pointer (some ⟨g2, 0, none⟩)] ∧ Blk 69 w g1 [nvv] ∧ Blk 22 w g2 [.slice a n c] ∧ OwnOf b8 1 5 w 0 (.slice a n c) l
theorem ClT.mono (nvv : Value) (l : List UInt8) : Mono (ClT nvv l) := fun _ _ _ ⟨g1, g2, a, n, c, h1, h2, h3, h4⟩ hb => ⟨g1, g2, a, n, c, h1, h2.kept hb, h3.kept hb, OwnOf.kept h4 hb⟩
/-- tree.all makes one -/
theorem tall_cl (t : Nd) (a : Option Addr) (n c : Nat) (l : List UInt8) (w : World) (h : OwnOf b8 1 5 w 0 (.slice a n c) l) : Calls Try.prog 22 #[nv t, .slice a n c] w fun e w' => ∃ v, e = .returned v ∧ ClT (nv t) l v w' ∧ Below w.heap.size w w' := by
  refine (tall_any t a n c w).mono ?_
  rintro e w' ⟨rfl, rfl⟩
  have b1 : Below w.heap.size w (w.alloc (.cells #[nv t] 69)) := (Below.refl _ _).alloc (Nat.le_refl _) _
  have b2 : Below w.heap.size w ((w.alloc (.cells #[nv t] 69)).alloc (.cells #[.slice a n c] 22)) := b1.alloc (by simp) _
  refine ⟨_, rfl, ⟨w.heap.size, w.heap.size + 1, a, n, c, rfl, (Blk.new w 69 [nv t]).alloc _, ?_, OwnOf.kept h b2⟩, b2⟩
  have := Blk.new (w.alloc (.cells #[nv t] 69)) 22 [.slice a n c]
  simp only [World.size_alloc] at this
  exact this
/-- a made iterator, used with a caller's yield -/
theorem SeqQ.use {κ : Type} {P : Program} {g : Nat} {lb : Array Value} {L : List κ} {Y : κ → Array Value → World → Prop} {Kp : World → World → Prop} {W0 W : World} (h : SeqQ P g lb L Y Kp W) (hs : W0.heap.size ≤ W.heap.size) (l k : Nat) (J : Nat → World → Prop) (Jx : World → Prop) (hJ : ∀ k, Stab W0.heap.size (J k)) (hJx : Stab W0.heap.size Jx)
    (hY : ∀ i x args W1, L[i]? = some x → J (k + i) W1 → Y x args W1 → YieldAt (FW none) 8 P l args W1 (RdQ Kp W0.heap.size (J (k + i + 1)) Jx W1)) (h0 : J k W) :
    Calls P g (#[.func (.yield l) #[] #[]] ++ lb) W fun e W' => (∃ v, e = .returned v) ∧ (J (k + L.length) W' ∨ Jx W') :=
  h l (fun i W => J (k + i) W) Jx (fun i => (hJ _).mono hs) (hJx.mono hs) (fun i x args W1 h1 h2 h3 => (hY i x args W1 h1 h2 h3).mono (by
    rintro e W' (⟨a, b, c, d⟩ | ⟨a, b, c⟩)
    · exact .inl ⟨a, b, c, keepsMono d hs⟩
    · exact .inr ⟨a, b, keepsMono c hs⟩)) h0
set_option maxHeartbeats 2000000 in
set_option maxRecDepth 100000 in
theorem all1_road (w0 : World) (pa : Option Addr) (pn pc : Nat) (pl : List UInt8) (qa : Option Addr) (qn qc : Nat) (p : List UInt8) (k : Nd) (hk3 : k.kd = 3) (hpn : pl.length = pn) (hqn : p.length = qn) (hb1 : pn ≤ 1000000000) (hb2 : qn ≤ 1000000000) (hq : Bytes w0 (.slice qa qn qc) p) (L : List Rt)
    (ih : ∀ (a : Option Addr) (n c : Nat), (pl ++ p).length = n → AllQ w0 (nv k) a n c (pl ++ p) L) :
    AllQ w0 (.iface 131 (.agg #[.slice qa qn qc, nv k])) pa pn pc pl L := by
  intro B1 B2 W hS l J Jx hJ hJx hY h0
  refine (callsIn_wide (n := 8)).1 ?_
  show CallsIn (FW none) 8 _ _ _ _ _
  obtain ⟨kx, hkx⟩ := nv_fork hk3
  obtain ⟨w1, hw1⟩ : ∃ w1, w1 = W.alloc (.cells #[.func (.yield l) #[] #[]] 126) := ⟨_, rfl⟩
  obtain ⟨w2, hw2⟩ : ∃ w2, w2 = w1.alloc (.cells #[.slice qa qn qc, nv k] 131) := ⟨_, rfl⟩
  have hbel : Below W.heap.size W w1 := by rw [hw1]; exact (Below.refl _ _).alloc (Nat.le_refl _) _
  have hbel2 : Below w1.heap.size w1 w2 := by rw [hw2]; exact (Below.refl _ _).alloc (Nat.le_refl _) _
  have hbW2 := Below.then hbel hbel2
  have c1 : w1.cell? ⟨B1, 0, none⟩ = some (.iface 131 (.agg #[.slice qa qn qc, nv k])) := (hS.n.kept hbel).cell 0
  have y1 : Blk 126 w1 W.heap.size [.func (.yield l) #[] #[]] := by rw [hw1]; exact Blk.new W _ _
  have c3 : w2.cell? ⟨W.heap.size, 0, none⟩ = some (.func (.yield l) #[] #[]) := (y1.kept hbel2).cell 0
  have c2 : w2.cell? ⟨B2, 0, none⟩ = some (.slice pa pn pc) := (hS.p.kept hbW2).cell 0
  have y2 : Blk 131 w2 w1.heap.size [.slice qa qn qc, nv k] := by rw [hw2]; exact Blk.new w1 _ _
  have c40 : w2.cell? ⟨w1.heap.size, 0, none⟩ = some (.slice qa qn qc) := y2.cell 0
  have c41 : w2.cell? ⟨w1.heap.size, 1, none⟩ = some (nv k) := y2.cell 1
  have hS2 := hS.b.trans (hbW2.mono hS.b.size)
  have cj := fun (u : World) (hu : Below w2.heap.size w2 u) => pjoin_any pa qa pn pc qn qc pl p hpn hqn hb1 hb2 u ((hS.o.row.below hbW2).below hu) (hq.below (Below.then (w0 := w0) hS2 hu))
  have hlen : (pl ++ p).length = pn + qn := by rw [List.length_append, hpn, hqn]
  have ca := fun (a : Option Addr) (c : Nat) (u : World) (h : OwnOf b8 1 5 u 0 (.slice a (pn + qn) c) (pl ++ p)) => tall_cl k a (pn + qn) c (pl ++ p) u h
  have hfin : ∀ (g1 g2 : Nat) (a : Option Addr) (n c : Nat) (u : World), Below w2.heap.size w2 u → Blk 69 u g1 [nv k] → Blk 22 u g2 [.slice a n c] → OwnOf b8 1 5 u 0 (.slice a n c) (pl ++ p) →
      Calls Try.prog 52 #[.func (.yield l) #[] #[], .pointer (some ⟨g1, 0, none⟩), .pointer (some ⟨g2, 0, none⟩)] u fun e W' => (∃ v, e = .returned v) ∧ (J L.length W' ∨ Jx W') := fun g1 g2 a n c u hu h1 h2 h3 => by
    have hn : (pl ++ p).length = n := h3.row.fits.1.symm
    have hq := (ih a n c hn g1 g2 u ⟨hS2.trans (hu.mono hS2.size), h1, h2, h3⟩).use (W0 := W) (Nat.le_trans hbW2.size hu.size) l 0 J Jx hJ hJx (fun i x args W1 e1 e2 e3 => by
      rw [Nat.zero_add] at e2 ⊢
      exact hY i x args W1 e1 e2 e3) ((hJ 0).below h0 (Below.then hbW2 hu))
    rw [Nat.zero_add] at hq
    exact hq
  rw [hkx] at c1 c41 hw2 hfin ca
  have z1 := as2_1
  have z2 := as2_2
  have HWe := Lib.hid hw1
  have HWf := Lib.hid hw2
  have Cj := Lib.hid cj
  have Ca := Lib.hid ca
  have Hlen := Lib.hid hlen
  have HFin := Lib.hid hfin
  clear hw1 hw2 hS hJ hJx h0 hbel hbel2 hbW2 cj hY hlen y1 y2 hS2 hq ih ca hfin
  refine callsIn_of_wp_marks Try.func52 rfl trivial ?_
  simp only [Try.ntmps52, List.size_toArray, List.length_cons, List.length_nil, Nat.reduceAdd, Nat.reduceSub, Array.replicate_succ, Array.replicate_zero, List.push_toArray, List.append_toArray, List.nil_append, List.cons_append]
  gi_upto_region 1 with fail
  rw [← HWe.out]
  gi_upto_region 7 with fail
  rw [← HWf.out]
  have k3 := fun u : Ext w2 => u.cell c3
  have k2 := fun u : Ext w2 => u.cell c2
  have k40 := fun u : Ext w2 => u.cell c40
  have k41 := fun u : Ext w2 => u.cell c41
  refine regionFW_tail w2 8 (by kernel_rfl) (by kernel_rfl) (by rfl) (Below.refl _ _) ?_
  simp only [List.take_succ_cons, List.take_zero, List.take_nil]
  iterate 5 (refine wpX_step (by rfl) (fun K hK => ?_); go_simp; first | (refine hK _ ?_; clear hK K) | (apply Exists.intro; refine ⟨fun _ => ?_, hK _ ?_⟩; fail; clear hK K))
  refine wpX_rel 31 (OnT (pl ++ p)) rfl (of_decide_eq_true rfl) (OnT.mono _) (fun u hu => ?_) ?_
  · change forallRel u [] _ _
    simp only [forallRel]
    refine ⟨by rfl, ?_⟩
    go_simp
    refine (Cj.out u hu).mono ?_
    rintro e w8 ⟨v8, rfl, o8, b8⟩
    exact ⟨_, rfl, o8.lower (Nat.zero_le _), b8⟩
  refine wpX_rel 32 (ClT (.iface 134 kx) (pl ++ p)) rfl (of_decide_eq_true rfl) (ClT.mono _ _) (fun u hu => ?_) ?_
  · change forallRel u [(31, _)] _ _
    rintro v31 h31
    simp only [forallRel]
    refine ⟨by rfl, ?_⟩
    obtain ⟨ja, jc, rfl, _⟩ := OwnOf.form' h31 (pn + qn) Hlen.out
    go_simp
    refine (Ca.out ja jc u h31).mono ?_
    rintro e w8 ⟨v8, rfl, o8, b8⟩
    exact ⟨_, rfl, o8, b8⟩
  (refine wpX_step (by rfl) (fun K hK => ?_); go_simp; first | (refine hK _ ?_; clear hK K) | (apply Exists.intro; refine ⟨fun _ => ?_, hK _ ?_⟩; fail; clear hK K))
  refine wpX_nil ?_
  intro y hb v31 _ v32 h32
  change wpListIn (FW none) 8 _ _ _ [_] _ _
  try simp only [Act.put, List.setIfInBounds_toArray, List.set_cons_zero, List.set_cons_succ]
  obtain ⟨g1, g2, a, n, c, rfl, h1, h2, h3⟩ := h32
  have hc := HFin.out g1 g2 a n c y hb h1 h2 h3
  have Hc := Lib.hid hc
  have hent := enters_all1
  clear hc k3 k2 k40 k41 HFin h1 h2 h3
  gi_wp2_with (gi_at_call 52; refine (callsFW Hc.out).mono ?_; rintro e w3 ⟨⟨v, rfl⟩, hJ3⟩)
  exact ⟨_, results_none rfl _ _ _, ⟨_, rfl⟩, hJ3⟩
end Go.Proofs.Ytljbbpcnoajfeaa
