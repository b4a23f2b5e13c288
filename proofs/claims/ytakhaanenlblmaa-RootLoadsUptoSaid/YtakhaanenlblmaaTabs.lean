/- What the tables of this translation say of its types. -/
import Derived.Test.YtakhaanenlblmaaRows
import Derived.Test.YtakhaanenlblmaaBase
set_option linter.unusedSimpArgs false
set_option linter.unusedVariables false
namespace Go.Proofs.Ytakhaanenlblmaa
theorem elU8:El Try.prog 22 5 (.int .u8 0) 1 1 b8:=⟨by kernel_rfl,by kernel_rfl,rfl,by omega,fun _=>rfl,one_b8⟩
theorem aggState:Agg Try.prog 243 8:=⟨_,Try.underlying243,rfl,by kernel_rfl⟩
theorem own:ownKnob Try.prog.godebug=none:=by kernel_rfl
theorem laidOut:laidOutB Try.prog=true:=by kernel_rfl
end Go.Proofs.Ytakhaanenlblmaa
