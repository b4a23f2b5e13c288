/- What the tables of this translation say of its types. -/
import Derived.Test.YtikndlkfmjhgdaaRows
import Derived.Test.YtikndlkfmjhgdaaBase
set_option linter.unusedSimpArgs false
set_option linter.unusedVariables false
namespace Go.Proofs.Ytikndlkfmjhgdaa
theorem elU8 : El Try.prog 24 5 (.int .u8 0) 1 1 b8 := ⟨by kernel_rfl, by kernel_rfl, rfl, by omega, fun _ => rfl, one_b8⟩
theorem aggState : Agg Try.prog 166 8 := ⟨_, Try.underlying166, rfl, by kernel_rfl⟩
theorem own : ownKnob Try.prog.godebug = none := by kernel_rfl
theorem laidOut : laidOutB Try.prog = true := by kernel_rfl
end Go.Proofs.Ytikndlkfmjhgdaa
