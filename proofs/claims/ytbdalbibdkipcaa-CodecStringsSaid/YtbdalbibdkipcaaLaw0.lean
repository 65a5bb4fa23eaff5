/- What every law of the seat needs. -/
import Derived.Test.YtbdalbibdkipcaaTb
import Derived.Test.YtbdalbibdkipcaaSeS
set_option linter.unusedVariables false
set_option linter.unusedSimpArgs false
set_option linter.constructorNameAsVariable false
namespace Go.Proofs
open Go.SE Go.ChangeShapes Go.RowKit
theorem Try.own : ownKnob Try.prog.godebug = none := by kernel_rfl
theorem Try.laidOut : laidOutB Try.prog = true := by kernel_rfl
end Go.Proofs
