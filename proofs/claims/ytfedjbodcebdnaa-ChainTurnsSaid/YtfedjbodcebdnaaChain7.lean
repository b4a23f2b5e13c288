/- chain.Turn. -/
import Derived.Test.YtfedjbodcebdnaaChain4
import Derived.Test.YtfedjbodcebdnaaChain6
set_option linter.unusedSimpArgs false
set_option linter.unusedVariables false
namespace Go.Proofs.Ytfedjbodcebdnaa
open Go.RowKit
set_option maxHeartbeats 1000000 in
set_option maxRecDepth 100000 in
theorem turn_any (a b : Option Addr) (n m c d : Nat) (ls ms : List Hdr) (hn : ls.length = n) (hm : ms.length = m) (w : World) (h1 : RowOf hdc 204 w (.slice a n c) ls) (h2 : RowOf hdc 204 w (.slice b m d) ms)
    (hB1 : n * 232 ≤ 140737488355328) (hB2 : m * 232 ≤ 140737488355328) (s : Nat) (hs : s = shn ls ms) :
    Calls Try.prog 15 #[.slice a n c, .slice b m d] w fun e w' => ∃ v u, e = .returned (.tuple #[v, u]) ∧ RowOf hdc 204 w' v (ls.drop s).reverse ∧ RowOf hdc 204 w' u (ms.drop s) ∧ Below w.heap.size w w' := by
  have hle := shn_le ls ms
  rw [← hs, hn, hm] at hle
  have c1 := shared_any a b n m c d ls ms hn hm w h1 h2
  rw [← hs] at c1
  obtain ⟨a', c', s1, r1⟩ := RowOf.from elHdr h1 s hle.1 (s : Int) rfl
  obtain ⟨b', d', s2, r2⟩ := RowOf.from elHdr h2 s hle.2 (s : Int) rfl
  have hl1 : (ls.drop s).length = n - s := by rw [List.length_drop, hn]
  have hl2 : (ms.drop s).length = m - s := by rw [List.length_drop, hm]
  generalize ls.drop s = LS at *
  generalize ms.drop s = MS at *
  have c2 := fun w1 hb => hclone_any a' (n - s) c' LS hl1 w1 (r1.below hb) (by omega)
  have c3 := fun w1 hb => hclone_any b' (m - s) d' MS hl2 w1 (r2.below hb) (by omega)
  have c4 := fun a3 c3 B w1 h => hrev_any a3 (n - s) c3 B LS hl1 w1 h
  have C2 := Lib.hid c2
  have C3 := Lib.hid c3
  have C4 := Lib.hid c4
  have Hl1 := Lib.hid hl1
  clear c2 c3 c4 hl1 hl2 h1 h2 hn hm hs
  go_enter Try.func15, Try.ntmps15
  go_wp2_with (first
    | (go_at_call 16; (with_reducible refine c1.mono ?_); rintro e w1 ⟨rfl, b1⟩)
    | (go_at_call 52; (with_reducible refine (C2.out _ b1).mono ?_); rintro e w2 ⟨v2, rfl, o2, b2⟩; have bel2 := Below.then b1 b2; obtain ⟨a2, c2, rfl, _⟩ := o2.form' (n - s) Hl1.out)
    | (go_at_call 53; (with_reducible refine (C4.out _ _ _ _ o2).mono ?_); rintro e w3 ⟨rfl, r3, b3⟩; have bel3 := Below.then b1 (b3 _ b2))
    | (go_at_call 52; (with_reducible refine (C3.out _ bel3).mono ?_); rintro e w4 ⟨v4, rfl, o4, b4⟩; have bel4 := Below.then bel3 b4))
  go_ret2
  exact ⟨_, _, rfl, r3.below b4, o4.row, bel4⟩
end Go.Proofs.Ytfedjbodcebdnaa
