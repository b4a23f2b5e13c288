/- The walk of the law NibTags. -/
import Derived.Test.YtgmdbleeagfhpaaNib8
set_option linter.unusedSimpArgs false
set_option linter.unusedVariables false
namespace Go.Proofs.Ytgmdbleeagfhpaa
open Go.RowKit
set_option maxHeartbeats 400000 in
set_option maxRecDepth 100000 in
theorem nibTags_walk (a b : Option Addr) (c d : Nat) (p q : List UInt8) (leaf : Bool) (w : World) (hp : Bytes w (.slice a p.length c) p) (hq : Bytes w (.slice b q.length d) q) (hl : p.length ≤ 140737488355000) (hql : 2 * q.length ≤ 140737488355000) :
    Calls Try.prog 8 #[.slice a p.length c, .bool leaf, .slice b q.length d] w fun e w' => e = .returned (.bool true) ∧ Below w.heap.size w w' := by
  obtain ⟨n, hn⟩ : ∃ n, n = p.length := ⟨_, rfl⟩
  obtain ⟨m, hm⟩ : ∃ m, m = q.length := ⟨_, rfl⟩
  rw [← hn] at hp hl ⊢
  rw [← hm] at hq hql ⊢
  have Hn := Lib.hid hn.symm
  have Hm := Lib.hid hm.symm
  clear hn hm
  obtain ⟨T, hT⟩ : ∃ T, T = tagL p leaf := ⟨_, rfl⟩
  have c1 := fun w h => tag_any a n c p leaf Hn.out w h (by omega)
  have c2 := fun w h => ntag_any a n c p leaf Hn.out w h (by omega)
  rw [← hT] at c1 c2
  have C1 := Lib.hid c1
  have C2 := Lib.hid c2
  clear hT c1 c2
  go_enter Try.func8, Try.ntmps8
  go_wp2_with (first
    | (go_at_call 40; refine (C1.out _ hp).mono ?_; rintro e w1 ⟨v1, rfl, h1, b1⟩)
    | (go_at_call 41; refine (C2.out _ (hp.below b1)).mono ?_; rintro e w2 ⟨v2, rfl, h2, b2⟩; have b12 := Below.then b1 b2)
    | (go_at_call 42; refine (untag_any b m d q Hm.out _ (hq.below b12) (by omega)).mono ?_; rintro e w3 ⟨v3, rfl, h3, b3⟩; have b13 := Below.then b12 b3)
    | (go_at_call 43; refine (nuntag_any b m d q Hm.out _ (hq.below b13) (by omega)).mono ?_; rintro e w4 ⟨v4, rfl, h4, b4⟩; have b14 := Below.then b13 b4; have s1 := str_conv (RowOf.kept (RowOf.kept (RowOf.kept h1 b2) b3) b4); have s2 := str_conv (RowOf.kept (RowOf.kept h2 b3) b4); have s3 := str_conv (RowOf.kept h3 b4); have s4 := str_conv h4))
  go_ret
  exact ⟨rfl, b14⟩
end Go.Proofs.Ytgmdbleeagfhpaa
