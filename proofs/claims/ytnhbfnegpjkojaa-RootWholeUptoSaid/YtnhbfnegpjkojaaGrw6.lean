/- The reference's grown of any list. -/
import Derived.Test.YtnhbfnegpjkojaaGrw5
set_option linter.unusedSimpArgs false
set_option linter.unusedVariables false
namespace Go.Proofs.Ytnhbfnegpjkojaa
open Go.RowKit
theorem grown_any : ∀ n, GrwC n
  | 0 => by
    intro l a L cap w hL _ _ hok h
    have hl : l = [] := hok
    subst hl
    subst hL
    exact grown_none 0 a cap w
  | n + 1 => by
    intro l a L cap w hL hLs hs hok h
    match l, hL with
    | [], hL => subst hL; exact grown_none (n + 1) a cap w
    | [r], hL => subst hL; exact grown_one n r a cap w hs h
    | r :: r' :: l', hL =>
      have h2 : 2 ≤ L := by rw [← hL]; simp
      rcases hok with h0 | ⟨h0, h1, h3⟩ | ⟨h0, h1, h3⟩
      · simp at h0
      · exact grown_road n (grown_any n) _ a L cap w hL h2 hLs hs h0 h1 h3 h
      · exact grown_fork n (grown_any n) _ a L cap w hL h2 hLs hs h0 h1 h3 h
end Go.Proofs.Ytnhbfnegpjkojaa
