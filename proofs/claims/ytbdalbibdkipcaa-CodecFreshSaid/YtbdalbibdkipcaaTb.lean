/- The seat's types. -/
import Derived.Test.YtbdalbibdkipcaaSeR
import Derived.Test.YtbdalbibdkipcaaProg
import Derived.KernelRfl
set_option linter.unusedVariables false
set_option linter.unusedSimpArgs false
set_option linter.constructorNameAsVariable false
namespace Go.Proofs
open Go.SE

def Try.Tb : Tab := [(2, (.int .i64)), (3, (.int .i64)), (4, .bool), (5, (.int .u8)), (9, .str), (12, (.int .u64)), (21, (.int .i32)), (22, (.sl (.int .u8))), (23, (.int .u64)), (25, (.int .i64)), (31, (.arr 32 (.int .u8))), (32, (.arr 32 (.int .u8))), (35, (.int .u16)), (37, (.int .u32)), (71, (.int .u64))]
theorem Try.hT : Try.Tb.Ok Try.prog := Tab.ok_of (by kernel_rfl)
theorem Try.TS : Go.SE.look Try.Tb 2 = some (.int .i64) ∧
  Go.SE.look Try.Tb 3 = some (.int .i64) ∧
  Go.SE.look Try.Tb 4 = some .bool ∧
  Go.SE.look Try.Tb 5 = some (.int .u8) ∧
  Go.SE.look Try.Tb 9 = some .str ∧
  Go.SE.look Try.Tb 12 = some (.int .u64) ∧
  Go.SE.look Try.Tb 21 = some (.int .i32) ∧
  Go.SE.look Try.Tb 22 = some (.sl (.int .u8)) ∧
  Go.SE.look Try.Tb 23 = some (.int .u64) ∧
  Go.SE.look Try.Tb 25 = some (.int .i64) ∧
  Go.SE.look Try.Tb 31 = some (.arr 32 (.int .u8)) ∧
  Go.SE.look Try.Tb 32 = some (.arr 32 (.int .u8)) ∧
  Go.SE.look Try.Tb 35 = some (.int .u16) ∧
  Go.SE.look Try.Tb 37 = some (.int .u32) ∧
  Go.SE.look Try.Tb 71 = some (.int .u64) :=
  ⟨rfl, rfl, rfl, rfl, rfl, rfl, rfl, rfl, rfl, rfl, rfl, rfl, rfl, rfl, rfl⟩
end Go.Proofs
