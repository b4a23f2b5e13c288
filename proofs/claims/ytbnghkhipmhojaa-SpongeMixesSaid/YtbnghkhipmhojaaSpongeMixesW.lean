/- The walk of the law SpongeMixes. -/
import Derived.Test.YtbnghkhipmhojaaSponge3
import Derived.Test.YtbnghkhipmhojaaEq
import Derived.Test.YtbnghkhipmhojaaQuiet
namespace Go.Proofs.Ytbnghkhipmhojaa
open Go.RowKit
set_option maxHeartbeats 400000 in
set_option maxRecDepth 100000 in
theorem spongeMixes_walk (st : List Int) (hl : st.length = 8) (hw : ∀ x ∈ st, (Lit.int .u64 x).wf = true) (w : World) :
    Calls Try.prog 6 #[.agg (st.map (Value.int .u64)).toArray] w fun e w' => e = .returned (.bool true) ∧ Below w.heap.size w w' := by
  have h : St st := ⟨hl, fun x hx => bounds_u64 (hw x hx)⟩
  have hm := h.mix 12
  have hu := h.unmix 12
  show Calls Try.prog 6 #[.agg (u64s st).toArray] w _
  have c1 := mix_any st h
  have c2 := smix_any st h
  have c3 := unmix_any st h
  have c4 := sunmix_any st h
  generalize mixL st 12 = A at *
  generalize unmixL st 12 = B at *
  have C1 := Lib.hid c1
  have C2 := Lib.hid c2
  have C3 := Lib.hid c3
  have C4 := Lib.hid c4
  clear c1 c2 c3 c4
  have qA : ∀ w1 : World, (binOp .eql 33 (.agg (u64s A).toArray) (.agg (u64s A).toArray)).run Try.prog w1 = .ok (.bool true) w1 := fun w1 => by
    have := run_eqA (P := Try.prog) w1 Try.underlying33 Try.underlying27 (by kernel_rfl) A A hm.1 hm.1; rw [beq_self_eq_true] at this; exact this
  have qB : ∀ w1 : World, (binOp .eql 33 (.agg (u64s B).toArray) (.agg (u64s B).toArray)).run Try.prog w1 = .ok (.bool true) w1 := fun w1 => by
    have := run_eqA (P := Try.prog) w1 Try.underlying33 Try.underlying27 (by kernel_rfl) B B hu.1 hu.1; rw [beq_self_eq_true] at this; exact this
  go_enter Try.func6, Try.ntmps6
  go_wp2
  have hb0 := Blk.new w 33 (u64s st)
  generalize hw1 : w.alloc (.cells (u64s st).toArray 33) = w1 at hb0
  have b0 : Below w.heap.size w w1 := by rw [← hw1]; exact (Below.refl _ _).alloc (Nat.le_refl _) _
  clear hw1
  refine wp_region_ext w1 (by kernel_rfl) (by kernel_rfl) (Below.refl _ _) ?_
  repeat (first
    | (refine wpQuiet_loadA 33 (.tmp 1) rfl rfl w.heap.size rfl aggState hb0 (u64s_len h) ?_)
    | quiet_step (first
      | (go_at_call 25; exact Calls.ext (C1.out _))
      | (go_at_call 26; exact Calls.ext (C2.out _))
      | (go_at_call 27; exact Calls.ext (C3.out _))
      | (go_at_call 28; exact Calls.ext (C4.out _))))
  refine wpQuiet_nil ?_
  intro w2 b2
  go_wp2
  go_ret
  exact ⟨rfl, Below.then b0 b2⟩
end Go.Proofs.Ytbnghkhipmhojaa
