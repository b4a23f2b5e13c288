/- What the tables of this translation say of its types. -/
import Derived.Test.YtcgpjceopnfahaaRows
import Derived.Test.YtcgpjceopnfahaaBase
set_option linter.unusedSimpArgs false
set_option linter.unusedVariables false
namespace Go.Proofs.Ytcgpjceopnfahaa
theorem elU8 : El Try.prog 22 5 (.int .u8 0) 1 1 b8 := ⟨by kernel_rfl, by kernel_rfl, rfl, by omega, fun _ => rfl, one_b8⟩
theorem aggState : Agg Try.prog 161 8 := ⟨_, Try.underlying161, rfl, by kernel_rfl⟩
theorem own : ownKnob Try.prog.godebug = none := by kernel_rfl
theorem laidOut : laidOutB Try.prog = true := by kernel_rfl
end Go.Proofs.Ytcgpjceopnfahaa
