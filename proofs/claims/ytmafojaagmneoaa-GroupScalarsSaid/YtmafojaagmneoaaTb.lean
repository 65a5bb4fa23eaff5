/- The seat's types. -/
import Derived.Test.YtmafojaagmneoaaSeR
import Derived.Test.YtmafojaagmneoaaProg
import Derived.KernelRfl
set_option linter.unusedVariables false
set_option linter.unusedSimpArgs false
set_option linter.constructorNameAsVariable false
namespace Go.Proofs
open Go.SE

def Try.Tb : Tab := [(2, (.int .i64)), (3, (.int .i64)), (4, .bool), (5, (.int .u8)), (9, .str), (12, (.int .u64)), (21, (.int .i32)), (22, (.int .u64)), (23, (.arr 4 (.int .u64))), (24, (.arr 4 (.int .u64))), (30, (.int .u32)), (31, (.sl (.cons (.cons (.arr 32 (.int .u8)) (.cons (.int .u32) .nil)) (.cons (.int .u32) (.cons (.sl (.sl (.int .u8))) .nil))))), (32, (.sl (.cons (.int .i64) (.cons (.sl (.int .u8)) .nil)))), (33, (.cons (.int .u32) (.cons (.sl (.cons (.cons (.arr 32 (.int .u8)) (.cons (.int .u32) .nil)) (.cons (.int .u32) (.cons (.sl (.sl (.int .u8))) .nil)))) (.cons (.sl (.cons (.int .i64) (.cons (.sl (.int .u8)) .nil))) (.cons (.int .u32) .nil))))), (34, (.cons (.int .u32) (.cons (.sl (.cons (.cons (.arr 32 (.int .u8)) (.cons (.int .u32) .nil)) (.cons (.int .u32) (.cons (.sl (.sl (.int .u8))) .nil)))) (.cons (.sl (.cons (.int .i64) (.cons (.sl (.int .u8)) .nil))) (.cons (.int .u32) .nil))))), (35, (.sl (.cons (.cons (.arr 32 (.int .u8)) (.cons (.int .u32) .nil)) (.cons (.cons (.int .i64) (.cons (.sl (.int .u8)) .nil)) (.cons (.int .i64) (.cons .bool .nil)))))), (38, (.int .i64)), (42, (.arr 32 (.int .u8))), (43, (.arr 32 (.int .u8))), (55, (.cons (.arr 32 (.int .u8)) (.cons (.int .u32) .nil))), (56, (.cons (.arr 32 (.int .u8)) (.cons (.int .u32) .nil))), (57, (.sl (.sl (.int .u8)))), (58, (.cons (.cons (.arr 32 (.int .u8)) (.cons (.int .u32) .nil)) (.cons (.int .u32) (.cons (.sl (.sl (.int .u8))) .nil)))), (59, (.cons (.cons (.arr 32 (.int .u8)) (.cons (.int .u32) .nil)) (.cons (.int .u32) (.cons (.sl (.sl (.int .u8))) .nil)))), (60, (.sl (.int .u8))), (61, (.cons (.int .i64) (.cons (.sl (.int .u8)) .nil))), (62, (.cons (.int .i64) (.cons (.sl (.int .u8)) .nil))), (63, (.cons (.cons (.arr 32 (.int .u8)) (.cons (.int .u32) .nil)) (.cons (.cons (.int .i64) (.cons (.sl (.int .u8)) .nil)) (.cons (.int .i64) (.cons .bool .nil))))), (64, (.cons (.cons (.arr 32 (.int .u8)) (.cons (.int .u32) .nil)) (.cons (.cons (.int .i64) (.cons (.sl (.int .u8)) .nil)) (.cons (.int .i64) (.cons .bool .nil))))), (73, (.arr 8 (.int .u64))), (75, (.sl (.int .u64))), (82, (.int .u64)), (93, (.int .u16))]
theorem Try.hT : Try.Tb.Ok Try.prog := Tab.ok_of (by kernel_rfl)
theorem Try.TS : Go.SE.look Try.Tb 2 = some (.int .i64) ∧
  Go.SE.look Try.Tb 3 = some (.int .i64) ∧
  Go.SE.look Try.Tb 4 = some .bool ∧
  Go.SE.look Try.Tb 5 = some (.int .u8) ∧
  Go.SE.look Try.Tb 9 = some .str ∧
  Go.SE.look Try.Tb 12 = some (.int .u64) ∧
  Go.SE.look Try.Tb 21 = some (.int .i32) ∧
  Go.SE.look Try.Tb 22 = some (.int .u64) ∧
  Go.SE.look Try.Tb 23 = some (.arr 4 (.int .u64)) ∧
  Go.SE.look Try.Tb 24 = some (.arr 4 (.int .u64)) ∧
  Go.SE.look Try.Tb 30 = some (.int .u32) ∧
  Go.SE.look Try.Tb 31 = some (.sl (.cons (.cons (.arr 32 (.int .u8)) (.cons (.int .u32) .nil)) (.cons (.int .u32) (.cons (.sl (.sl (.int .u8))) .nil)))) ∧
  Go.SE.look Try.Tb 32 = some (.sl (.cons (.int .i64) (.cons (.sl (.int .u8)) .nil))) ∧
  Go.SE.look Try.Tb 33 = some (.cons (.int .u32) (.cons (.sl (.cons (.cons (.arr 32 (.int .u8)) (.cons (.int .u32) .nil)) (.cons (.int .u32) (.cons (.sl (.sl (.int .u8))) .nil)))) (.cons (.sl (.cons (.int .i64) (.cons (.sl (.int .u8)) .nil))) (.cons (.int .u32) .nil)))) ∧
  Go.SE.look Try.Tb 34 = some (.cons (.int .u32) (.cons (.sl (.cons (.cons (.arr 32 (.int .u8)) (.cons (.int .u32) .nil)) (.cons (.int .u32) (.cons (.sl (.sl (.int .u8))) .nil)))) (.cons (.sl (.cons (.int .i64) (.cons (.sl (.int .u8)) .nil))) (.cons (.int .u32) .nil)))) ∧
  Go.SE.look Try.Tb 35 = some (.sl (.cons (.cons (.arr 32 (.int .u8)) (.cons (.int .u32) .nil)) (.cons (.cons (.int .i64) (.cons (.sl (.int .u8)) .nil)) (.cons (.int .i64) (.cons .bool .nil))))) ∧
  Go.SE.look Try.Tb 38 = some (.int .i64) ∧
  Go.SE.look Try.Tb 42 = some (.arr 32 (.int .u8)) ∧
  Go.SE.look Try.Tb 43 = some (.arr 32 (.int .u8)) ∧
  Go.SE.look Try.Tb 55 = some (.cons (.arr 32 (.int .u8)) (.cons (.int .u32) .nil)) ∧
  Go.SE.look Try.Tb 56 = some (.cons (.arr 32 (.int .u8)) (.cons (.int .u32) .nil)) ∧
  Go.SE.look Try.Tb 57 = some (.sl (.sl (.int .u8))) ∧
  Go.SE.look Try.Tb 58 = some (.cons (.cons (.arr 32 (.int .u8)) (.cons (.int .u32) .nil)) (.cons (.int .u32) (.cons (.sl (.sl (.int .u8))) .nil))) ∧
  Go.SE.look Try.Tb 59 = some (.cons (.cons (.arr 32 (.int .u8)) (.cons (.int .u32) .nil)) (.cons (.int .u32) (.cons (.sl (.sl (.int .u8))) .nil))) ∧
  Go.SE.look Try.Tb 60 = some (.sl (.int .u8)) ∧
  Go.SE.look Try.Tb 61 = some (.cons (.int .i64) (.cons (.sl (.int .u8)) .nil)) ∧
  Go.SE.look Try.Tb 62 = some (.cons (.int .i64) (.cons (.sl (.int .u8)) .nil)) ∧
  Go.SE.look Try.Tb 63 = some (.cons (.cons (.arr 32 (.int .u8)) (.cons (.int .u32) .nil)) (.cons (.cons (.int .i64) (.cons (.sl (.int .u8)) .nil)) (.cons (.int .i64) (.cons .bool .nil)))) ∧
  Go.SE.look Try.Tb 64 = some (.cons (.cons (.arr 32 (.int .u8)) (.cons (.int .u32) .nil)) (.cons (.cons (.int .i64) (.cons (.sl (.int .u8)) .nil)) (.cons (.int .i64) (.cons .bool .nil)))) ∧
  Go.SE.look Try.Tb 73 = some (.arr 8 (.int .u64)) ∧
  Go.SE.look Try.Tb 75 = some (.sl (.int .u64)) ∧
  Go.SE.look Try.Tb 82 = some (.int .u64) ∧
  Go.SE.look Try.Tb 93 = some (.int .u16) :=
  ⟨rfl, rfl, rfl, rfl, rfl, rfl, rfl, rfl, rfl, rfl, rfl, rfl, rfl, rfl, rfl, rfl, rfl, rfl, rfl, rfl, rfl, rfl, rfl, rfl, rfl, rfl, rfl, rfl, rfl, rfl, rfl, rfl, rfl⟩
end Go.Proofs
