/- The walk of the law CodePlaces. -/
import Derived.Test.YtbnghkhipmhojaaCode3
namespace Go.Proofs.Ytbnghkhipmhojaa
open Go.RowKit
set_option maxHeartbeats 400000 in
set_option maxRecDepth 100000 in
theorem codePlaces_walk (a : Option Addr) (c : Nat) (l : List UInt8) (pc : Int) (hpc : (Lit.int .i64 pc).wf = true) (w : World) (h : Bytes w (.slice a l.length c) l) (hl : l.length ≤ 1048576) :
    Calls Try.prog 12 #[.slice a l.length c, .int .i64 pc] w fun e w' => e = .returned (.bool true) ∧ Below w.heap.size w w' := by
  obtain ⟨n, hn⟩ : ∃ n, n = (landF l 0 0).length := ⟨_, rfl⟩
  have Hn := Lib.hid hn
  clear hn
  generalize hT : landF l 0 0 = T at Hn
  have HT := Lib.hid hT
  clear hT
  have hl2 : l.length ≤ 140737488355328 := by omega
  have c1 := fun w1 h => next_any a c l pc hpc w1 h hl2
  have c2 := fun w1 h => lnext_any a c l pc hpc w1 h hl2
  have c3 := fun w1 h => landings_any a c l w1 h hl
  have c4 := fun w1 h => llandings_any a c l w1 h hl
  simp only [HT.out] at c3 c4
  generalize nextI l pc = y at c1 c2
  have C1 := Lib.hid c1
  have C2 := Lib.hid c2
  have C3 := Lib.hid c3
  have C4 := Lib.hid c4
  clear c1 c2 c3 c4 HT
  go_enter Try.func12, Try.ntmps12
  go_wp2_with (first
    | (go_at_call 56; refine (C1.out _ h).mono ?_; rintro e w' ⟨rfl, rfl⟩)
    | (go_at_call 57; refine (C2.out _ h).mono ?_; rintro e w' ⟨rfl, rfl⟩)
    | (go_at_call 59; refine (C3.out _ h).mono ?_; rintro e w1 ⟨v1, rfl, h1, b1⟩; obtain ⟨a1, d1, rfl, _⟩ := h1.form' n Hn.out.symm)
    | (go_at_call 60; refine (C4.out _ (h.below b1)).mono ?_; rintro e w2 ⟨v2, rfl, h2, b2⟩; obtain ⟨a2, d2, rfl, _⟩ := h2.form' n Hn.out.symm)
    | (go_at_call 58; refine (eqInts_any a1 a2 d1 d2 n T Hn.out.symm _ (RowOf.kept h1.row b2) h2.row).mono ?_; rintro e w3 ⟨rfl, b3⟩))
  go_ret
  exact ⟨rfl, Below.then (Below.then b1 b2) b3⟩
end Go.Proofs.Ytbnghkhipmhojaa
