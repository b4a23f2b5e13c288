/- What the tables of this translation say of its types. -/
import Derived.Test.YtljbbpcnoajfeaaRows
import Derived.Test.YtljbbpcnoajfeaaBase
set_option linter.unusedSimpArgs false
set_option linter.unusedVariables false
namespace Go.Proofs.Ytljbbpcnoajfeaa
theorem elU8 : El Try.prog 22 5 (.int .u8 0) 1 1 b8 := ⟨by kernel_rfl, by kernel_rfl, rfl, by omega, fun _ => rfl, one_b8⟩
theorem aggState : Agg Try.prog 187 8 := ⟨_, Try.underlying187, rfl, by kernel_rfl⟩
theorem own : ownKnob Try.prog.godebug = none := by kernel_rfl
theorem laidOut : laidOutB Try.prog = true := by kernel_rfl
end Go.Proofs.Ytljbbpcnoajfeaa
