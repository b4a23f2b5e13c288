/- sift.All, sift.Find. -/
import Derived.Test.YtljbbpcnoajfeaaSf11
import Derived.Test.YtljbbpcnoajfeaaSf5
set_option linter.unusedSimpArgs false
set_option linter.unusedVariables false
namespace Go.Proofs.Ytljbbpcnoajfeaa
open Go.RowKit
set_option maxRecDepth 100000 in
theorem enters_all (args : Array Value) (w : World) : (callFunc 33 args).run Try.prog w = .ok (.enter 33 args) w := enters_of Try.func33 (by kernel_rfl) rfl args w
set_option maxRecDepth 100000 in
theorem enters_find (args : Array Value) (w : World) : (callFunc 36 args).run Try.prog w = .ok (.enter 36 args) w := enters_of Try.func36 (by kernel_rfl) rfl args w
set_option maxRecDepth 100000 in
theorem all1_any (r : Rcp) (w : World) : Calls Try.prog 33 #[.agg (rpc r).toArray] w fun e w' => e = .returned (.bool true) ∧ Below w.heap.size w w' := by
  obtain ⟨RC, hRC⟩ : ∃ C, C = rpc r := ⟨_, rfl⟩
  rw [← hRC]
  go_enter Try.func33, Try.ntmps33
  go_wp2_with fail
  go_ret
  exact ⟨rfl, (Below.refl _ _).alloc (Nat.le_refl _) _⟩
set_option maxHeartbeats 1000000 in
set_option maxRecDepth 100000 in
theorem find1_any (f : Flt) (kf : f.Ok) (FB : Nat) (r : Rcp) (w : World) (hf : f.In w) (hb : Blk 36 w FB (flc f)) : Calls Try.prog 36 #[.agg (rpc r).toArray, .pointer (some ⟨FB, 0, none⟩)] w fun e w' => e = .returned (.bool (maB f r.bloom)) ∧ Below w.heap.size w w' := by
  obtain ⟨w1, hw1⟩ : ∃ w1, w1 = w.alloc (.cells (rpc r).toArray 91) := ⟨_, rfl⟩
  have z1 : Blk 91 w1 w.heap.size (rpc r) := by rw [hw1]; exact Blk.new w _ _
  have hbel : Below w.heap.size w w1 := by rw [hw1]; exact (Below.refl _ _).alloc (Nat.le_refl _) _
  have r1 := (hb.kept hbel).all0
  have r2 : w1.rangeAt w.heap.size 2 (fcs r.bloom) := by have := z1.range 2 32; rw [rpc_bloom] at this; exact this
  have cm := smay_any f kf r.bloom r.hb w1 (hf.kept hbel)
  have hFl : (flc f).length = 2 := rfl
  have hBl := fcs_len r.hb
  obtain ⟨q, hq⟩ : ∃ q, q = maB f r.bloom := ⟨_, rfl⟩
  obtain ⟨RC, hRC⟩ : ∃ C, C = rpc r := ⟨_, rfl⟩
  obtain ⟨FLC, hFLC⟩ : ∃ C, C = flc f := ⟨_, rfl⟩
  obtain ⟨BC, hBC⟩ : ∃ C, C = fcs r.bloom := ⟨_, rfl⟩
  rw [← hq, ← hFLC, ← hBC] at cm
  rw [← hq, ← hRC]
  rw [← hRC] at hw1
  rw [← hFLC] at r1 hFl
  rw [← hBC] at r2 hBl
  have HWe := Lib.hid hw1
  have Cm := Lib.hid cm
  have R1 := Lib.hid r1
  have R2 := Lib.hid r2
  have HFl := Lib.hid hFl
  have HBl := Lib.hid hBl
  clear hw1 cm r1 r2 hFl hBl hRC hFLC hBC hq z1 hb
  go_enter Try.func36, Try.ntmps36
  go_wp2_with (first
    | (rw [← HWe.out])
    | ((with_reducible show wpList _ _ _ (⟨some 4, _, _, _, _, _⟩ :: _) _ _); refine wpList_loadW (o := ⟨some 4, _, _, _, _, _⟩) 36 (.tmp 1) (by rfl) FB 0 (by rfl) aggFl HFl.out R1.out (by rfl) ?_)
    | ((with_reducible show wpList _ _ _ (⟨some 6, _, _, _, _, _⟩ :: _) _ _); refine wpList_loadW (o := ⟨some 6, _, _, _, _, _⟩) 43 (.tmp 5) (by rfl) w.heap.size 2 (by rfl) aggHash' HBl.out R2.out (by rfl) ?_)
    | (go_at_call 37; (with_reducible refine Cm.out.mono ?_); rintro e w2 ⟨rfl, b2⟩))
  go_ret
  exact ⟨rfl, Below.then hbel b2⟩
/-- what sift.All and sift.Find hand back -/
def FoundP (f : Flt) (most : Int) (L : List Fdv) (w : World) (e : Ending) (w' : World) : Prop := ∃ u xs, e = .returned u ∧ FdL w' w.heap.size u xs ∧ xs.map tel = firstF f most L ∧ Below w.heap.size w w'
set_option maxHeartbeats 1000000 in
set_option maxRecDepth 100000 in
theorem sall_any (f : Flt) (kf : f.Ok) (most : Int) (v : Value) (ps : List Pgv) (kp : PgOk ps) (kt : (pgF (fun _ => true) ps).length ≤ 1048576) (w : World) (hp : Pgs w v ps) (hf : f.In w) :
    Calls Try.prog 11 #[v, .agg (flc f).toArray, .int .i64 most] w (FoundP f most (pgF (fun _ => true) ps) w) := by
  obtain ⟨w1, hw1⟩ : ∃ w1, w1 = w.alloc (.cells (flc f).toArray 36) := ⟨_, rfl⟩
  have z1 : Blk 36 w1 w.heap.size (flc f) := by rw [hw1]; exact Blk.new w _ _
  have hbel : Below w.heap.size w w1 := by rw [hw1]; exact (Below.refl _ _).alloc (Nat.le_refl _) _
  have r1 := z1.all0
  have cg := gather_any f kf most (fun _ => true) 33 #[] enters_all v ps kp kt w1 (hp.below hbel) (hf.kept hbel) (fun p _ r _ u _ => all1_any r u)
  obtain ⟨FLC, hFLC⟩ : ∃ C, C = flc f := ⟨_, rfl⟩
  have hFl : FLC.length = 2 := by rw [hFLC]; rfl
  rw [← hFLC] at r1 hw1 cg ⊢
  obtain ⟨L, hL⟩ : ∃ L, L = pgF (fun _ => true) ps := ⟨_, rfl⟩
  rw [← hL] at cg ⊢
  have HWe := Lib.hid hw1
  have Cg := Lib.hid cg
  have R1 := Lib.hid r1
  have HFl := Lib.hid hFl
  obtain ⟨pa, pc, rfl, _⟩ := hp.row.form
  clear hw1 cg r1 hFl hL hFLC z1 hp
  go_enter Try.func11, Try.ntmps11
  go_wp2_with (first
    | (rw [← HWe.out])
    | ((with_reducible show wpList _ _ _ (⟨some 8, _, _, _, _, _⟩ :: _) _ _); refine wpList_loadW (o := ⟨some 8, _, _, _, _, _⟩) 36 (.tmp 4) (by rfl) w.heap.size 0 (by rfl) aggFl HFl.out R1.out (by rfl) ?_)
    | (go_at_call 32; (with_reducible refine Cg.out.mono ?_); rintro e w2 ⟨u, xs, rfl, h2, h3, b2⟩; obtain ⟨ua, uc, rfl, _⟩ := h2.own.form))
  go_ret
  exact ⟨_, xs, rfl, ⟨h2.own.lower hbel.size, fun x hx => (h2.lg x hx).lower hbel.size⟩, h3, Below.then hbel b2⟩
set_option maxHeartbeats 1000000 in
set_option maxRecDepth 100000 in
theorem sfind_any (f : Flt) (kf : f.Ok) (most : Int) (v : Value) (ps : List Pgv) (kp : PgOk ps) (kt : (pgF (fun r => maB f r.bloom) ps).length ≤ 1048576) (w : World) (hp : Pgs w v ps) (hf : f.In w) :
    Calls Try.prog 13 #[v, .agg (flc f).toArray, .int .i64 most] w (FoundP f most (pgF (fun r => maB f r.bloom) ps) w) := by
  obtain ⟨w1, hw1⟩ : ∃ w1, w1 = w.alloc (.cells (flc f).toArray 36) := ⟨_, rfl⟩
  have z1 : Blk 36 w1 w.heap.size (flc f) := by rw [hw1]; exact Blk.new w _ _
  have hbel : Below w.heap.size w w1 := by rw [hw1]; exact (Below.refl _ _).alloc (Nat.le_refl _) _
  have r1 := z1.all0
  have hf1 := hf.kept hbel
  have cg := gather_any f kf most (fun r => maB f r.bloom) 36 #[.pointer (some ⟨w.heap.size, 0, none⟩)] enters_find v ps kp kt w1 (hp.below hbel) hf1 (fun p _ r _ u hu => find1_any f kf w.heap.size r u (hf1.kept hu) (z1.kept hu))
  obtain ⟨FLC, hFLC⟩ : ∃ C, C = flc f := ⟨_, rfl⟩
  have hFl : FLC.length = 2 := by rw [hFLC]; rfl
  rw [← hFLC] at r1 hw1 cg ⊢
  obtain ⟨L, hL⟩ : ∃ L, L = pgF (fun r => maB f r.bloom) ps := ⟨_, rfl⟩
  rw [← hL] at cg ⊢
  have HWe := Lib.hid hw1
  have Cg := Lib.hid cg
  have R1 := Lib.hid r1
  have HFl := Lib.hid hFl
  obtain ⟨pa, pc, rfl, _⟩ := hp.row.form
  clear hw1 cg r1 hFl hL hFLC z1 hp hf1
  go_enter Try.func13, Try.ntmps13
  go_wp2_with (first
    | (rw [← HWe.out])
    | ((with_reducible show wpList _ _ _ (⟨some 8, _, _, _, _, _⟩ :: _) _ _); refine wpList_loadW (o := ⟨some 8, _, _, _, _, _⟩) 36 (.tmp 4) (by rfl) w.heap.size 0 (by rfl) aggFl HFl.out R1.out (by rfl) ?_)
    | (go_at_call 32; (with_reducible refine Cg.out.mono ?_); rintro e w2 ⟨u, xs, rfl, h2, h3, b2⟩; obtain ⟨ua, uc, rfl, _⟩ := h2.own.form))
  go_ret
  exact ⟨_, xs, rfl, ⟨h2.own.lower hbel.size, fun x hx => (h2.lg x hx).lower hbel.size⟩, h3, Below.then hbel b2⟩
end Go.Proofs.Ytljbbpcnoajfeaa
