/- The seat's types. -/
import Derived.Test.YtbdalbibdkipcaaSeR
import Derived.Test.YtbdalbibdkipcaaProg
import Derived.KernelRfl
set_option linter.unusedVariables false
set_option linter.unusedSimpArgs false
set_option linter.constructorNameAsVariable false
namespace Go.Proofs
open Go.SE

def Try.Tb : Tab := [(22, Ty.sl (.int .u8)), (3, Ty.int .i64), (23, Ty.int .u64), (5, Ty.int .u8), (4, Ty.bool), (25, Ty.int .i64), (9, Ty.str), (32, Ty.arr 32 (.int .u8)), (31, Ty.arr 32 (.int .u8)), (35, Ty.int .u16), (37, Ty.int .u32)]
theorem Try.hT : Try.Tb.Ok Try.prog := Tab.ok_of (by kernel_rfl)
theorem Try.T22 : Go.SE.look Try.Tb 22 = some (Ty.sl (.int .u8)) := rfl
theorem Try.T3 : Go.SE.look Try.Tb 3 = some (Ty.int .i64) := rfl
theorem Try.T23 : Go.SE.look Try.Tb 23 = some (Ty.int .u64) := rfl
theorem Try.T5 : Go.SE.look Try.Tb 5 = some (Ty.int .u8) := rfl
theorem Try.T4 : Go.SE.look Try.Tb 4 = some (Ty.bool) := rfl
theorem Try.T25 : Go.SE.look Try.Tb 25 = some (Ty.int .i64) := rfl
theorem Try.T9 : Go.SE.look Try.Tb 9 = some (Ty.str) := rfl
theorem Try.T32 : Go.SE.look Try.Tb 32 = some (Ty.arr 32 (.int .u8)) := rfl
theorem Try.T31 : Go.SE.look Try.Tb 31 = some (Ty.arr 32 (.int .u8)) := rfl
theorem Try.T35 : Go.SE.look Try.Tb 35 = some (Ty.int .u16) := rfl
theorem Try.T37 : Go.SE.look Try.Tb 37 = some (Ty.int .u32) := rfl
end Go.Proofs
