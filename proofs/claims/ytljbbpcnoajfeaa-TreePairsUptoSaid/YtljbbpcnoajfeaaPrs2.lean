/- tree.all's iterator at a leaf. -/
import Derived.Test.YtljbbpcnoajfeaaPrs1
set_option linter.unusedSimpArgs false
set_option linter.unusedVariables false
namespace Go.Proofs.Ytljbbpcnoajfeaa
open Go.RowKit
attribute [local go_sem] Oper.semAt_some
/-- a row of one's own as a value -/
def OnT (l : List UInt8) : Ty := fun v w => OwnOf b8 1 5 w 0 v l
theorem OnT.mono (l : List UInt8) : Mono (OnT l) := fun _ _ _ h hb => OwnOf.kept h hb
set_option maxHeartbeats 2000000 in
set_option maxRecDepth 100000 in
theorem all1_leaf (w0 : World) (pa : Option Addr) (pn pc : Nat) (pl : List UInt8) (qa va : Option Addr) (qn qc vn vc : Nat) (p v : List UInt8) (hpn : pl.length = pn) (hqn : p.length = qn) (hb1 : pn ≤ 1000000000) (hb2 : qn ≤ 1000000000) (hq : Bytes w0 (.slice qa qn qc) p) (hv : Bytes w0 (.slice va vn vc) v) :
    AllQ w0 (.iface 128 (.agg #[.slice qa qn qc, .slice va vn vc])) pa pn pc pl [(pl ++ p, v)] := by
  intro B1 B2 W hS l J Jx hJ _ hY h0
  refine (callsIn_wide (n := 8)).1 ?_
  show CallsIn (FW none) 8 _ _ _ _ _
  obtain ⟨w1, hw1⟩ : ∃ w1, w1 = W.alloc (.cells #[.func (.yield l) #[] #[]] 126) := ⟨_, rfl⟩
  obtain ⟨w2, hw2⟩ : ∃ w2, w2 = w1.alloc (.cells #[.slice qa qn qc, .slice va vn vc] 128) := ⟨_, rfl⟩
  have hbel : Below W.heap.size W w1 := by rw [hw1]; exact (Below.refl _ _).alloc (Nat.le_refl _) _
  have hbel2 : Below w1.heap.size w1 w2 := by rw [hw2]; exact (Below.refl _ _).alloc (Nat.le_refl _) _
  have hbW2 := Below.then hbel hbel2
  have c1 : w1.cell? ⟨B1, 0, none⟩ = some (.iface 128 (.agg #[.slice qa qn qc, .slice va vn vc])) := (hS.n.kept hbel).cell 0
  have y1 : Blk 126 w1 W.heap.size [.func (.yield l) #[] #[]] := by rw [hw1]; exact Blk.new W _ _
  have c3 : w2.cell? ⟨W.heap.size, 0, none⟩ = some (.func (.yield l) #[] #[]) := (y1.kept hbel2).cell 0
  have c2 : w2.cell? ⟨B2, 0, none⟩ = some (.slice pa pn pc) := (hS.p.kept hbW2).cell 0
  have y2 : Blk 128 w2 w1.heap.size [.slice qa qn qc, .slice va vn vc] := by rw [hw2]; exact Blk.new w1 _ _
  have c40 : w2.cell? ⟨w1.heap.size, 0, none⟩ = some (.slice qa qn qc) := y2.cell 0
  have c41 : w2.cell? ⟨w1.heap.size, 1, none⟩ = some (.slice va vn vc) := y2.cell 1
  have hS2 := hS.b.trans (hbW2.mono hS.b.size)
  have cj := fun (u : World) (hu : Below w2.heap.size w2 u) => pjoin_any pa qa pn pc qn qc pl p hpn hqn hb1 hb2 u ((hS.o.row.below hbW2).below hu) (hq.below (Below.then (w0 := w0) hS2 hu))
  have hJ2 := fun (u : World) (hu : Below w2.heap.size w2 u) => (hJ 0).below h0 (Below.then hbW2 hu)
  have hY2 := fun (args : Array Value) (u : World) (hu : Below w2.heap.size w2 u) (hy : yT w0 (pl ++ p, v) args u) => hY 0 (pl ++ p, v) args u rfl (hJ2 u hu) hy
  have z1 := as1_1
  have HWe := Lib.hid hw1
  have HWf := Lib.hid hw2
  have Cj := Lib.hid cj
  have HY := Lib.hid hY2
  have hlen : (pl ++ p).length = pn + qn := by rw [List.length_append, hpn, hqn]
  have Hlen := Lib.hid hlen
  have Hv := Lib.hid hv
  clear hw1 hw2 hS hJ h0 hbel hbel2 hbW2 cj hJ2 hY2 hY hlen y1 y2 hS2 hq hv
  refine callsIn_of_wp_marks Try.func52 rfl trivial ?_
  simp only [Try.ntmps52, List.size_toArray, List.length_cons, List.length_nil, Nat.reduceAdd, Nat.reduceSub, Array.replicate_succ, Array.replicate_zero, List.push_toArray, List.append_toArray, List.nil_append, List.cons_append]
  gi_upto_region 1 with fail
  rw [← HWe.out]
  gi_upto_region 4 with fail
  rw [← HWf.out]
  have k3 := fun u : Ext w2 => u.cell c3
  have k2 := fun u : Ext w2 => u.cell c2
  have k40 := fun u : Ext w2 => u.cell c40
  have k41 := fun u : Ext w2 => u.cell c41
  refine regionFW_tail w2 7 (by kernel_rfl) (by kernel_rfl) (by rfl) (Below.refl _ _) ?_
  simp only [List.take_succ_cons, List.take_zero, List.take_nil]
  iterate 4 (refine wpX_step (by rfl) (fun K hK => ?_); go_simp; first | (refine hK _ ?_; clear hK K) | (apply Exists.intro; refine ⟨fun _ => ?_, hK _ ?_⟩; fail; clear hK K))
  refine wpX_rel 19 (OnT (pl ++ p)) rfl (of_decide_eq_true rfl) (OnT.mono _) (fun u hu => ?_) ?_
  · change forallRel u [] _ _
    simp only [forallRel]
    refine ⟨by rfl, ?_⟩
    go_simp
    refine (Cj.out u hu).mono ?_
    rintro e w8 ⟨v8, rfl, o8, b8⟩
    exact ⟨_, rfl, o8.lower (Nat.zero_le _), b8⟩
  iterate 2 (refine wpX_step (by rfl) (fun K hK => ?_); go_simp; first | (refine hK _ ?_; clear hK K) | (apply Exists.intro; refine ⟨fun _ => ?_, hK _ ?_⟩; fail; clear hK K))
  refine wpX_nil ?_
  intro y hb v19 h19
  change wpListIn (FW none) 8 _ _ _ [_] _ _
  try simp only [Act.put, List.setIfInBounds_toArray, List.set_cons_zero, List.set_cons_succ]
  obtain ⟨ja, jc, rfl, _⟩ := OwnOf.form' h19 (pn + qn) Hlen.out
  obtain ⟨fn, tmps, assign, body, hy, hR⟩ := HY.out #[.slice ja (pn + qn) jc, .slice va vn vc] y hb ⟨_, _, _, _, _, _, rfl, h19, Hv.out⟩
  have HR := Lib.hid hR
  clear hR k3 k2 k40 k41
  gi_wp2_with fail
  refine (roundFW HR.out).mono ?_
  rintro e W3 (⟨rfl, hJ3, hk3, hf3⟩ | ⟨rfl, hJx3, _⟩)
  · gi_wp2_with fail
    exact ⟨_, results_none rfl _ _ _, ⟨_, rfl⟩, .inl hJ3⟩
  · gi_wp2_with fail
    exact ⟨_, results_none rfl _ _ _, ⟨_, rfl⟩, .inr hJx3⟩
end Go.Proofs.Ytljbbpcnoajfeaa
