/- What arguments read as: bytes. -/
import Derived.Test.YtbdalbibdkipcaaCoC
import Derived.Test.YtbdalbibdkipcaaSeS
import Derived.Test.YtbdalbibdkipcaaLaw0
set_option linter.unusedVariables false
set_option linter.unusedSimpArgs false
set_option linter.constructorNameAsVariable false
namespace Go.Proofs
open Go.SE Go.ChangeShapes Go.RowKit




theorem BY.of_fit {x : D} (h : Fit (.sl (.int .u8)) x) : ∃ b, x = .l b ∧ BY b ∧ b.length ≤ 9223372036854775807 := by
  obtain ⟨l, rfl, hl, hb⟩ := h
  exact ⟨l, rfl, fun y hy => (hb y hy).u8, hl⟩
theorem BY.of_arr {x : D} {n : Nat} (h : Fit (.arr n (.int .u8)) x) : ∃ b, x = .l b ∧ BY b ∧ b.length = n := by
  obtain ⟨l, rfl, hl, hb⟩ := h
  exact ⟨l, rfl, fun y hy => (hb y hy).u8, hl⟩
end Go.Proofs
