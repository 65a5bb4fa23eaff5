/- PROVED HERE: a number other than 0 modulo the prime and its negative are not both members, and just one of them is; squares are members: the law 'GroupSquares' returns true for every input. No condition. -/
import Derived.Test.YtmafojaagmneoaaRows
import Derived.Test.YtmafojaagmneoaaGrE
import Derived.Test.YtmafojaagmneoaaLaw0
set_option linter.unusedVariables false
set_option linter.unusedSimpArgs false
set_option linter.constructorNameAsVariable false
namespace Go.Proofs.Ytmafojaagmneoaa
open Go.SE Go.ChangeShapes Go.RowKit

theorem the_law : ∀ (x : D), Fit (.arr 4 (.int .u64)) x → SCall Try.prog 4 [(.arr 4 (.int .u64), x)] (fun rs => rs = [.d .bool (.b true)]) := by
  intro x hx
  obtain ⟨n, hn, rfl⟩ := u256_fit hx
  exact groupSquares n _ hn rfl

theorem the_call : ∀ (xs : List D), FitL [.arr 4 (.int .u64)] xs → SCall Try.prog 4 (zipA [.arr 4 (.int .u64)] xs) (fun rs => rs = [.d .bool (.b true)])
  | [], h => by simp [FitL] at h
  | _ :: _ :: _, h => by simp [FitL] at h
  | [x0], h => by
    obtain ⟨h0, _⟩ := h
    exact the_law x0 h0

set_option maxRecDepth 100000 in
theorem lifted (os : Os) (started : os.Started) (H : Type) (enc : TypeId × Value → H) :
    ReturnsInHanded {} Try.checked os 4 .any (Rows.groupSquaresSpec.pre6 enc Try.prog Try.f4 Rows.groupSquaresRow.domain false) (Rows.groupSquaresSpec.post enc Try.prog Try.f4 false true false false) := by
  refine returnsInHanded_of_change (C := Try.checked) Try.own started (by kernel_rfl) Try.func4
    (ChangeSpec.witness6 (enc := enc) (C := Try.checked) false ⟨#[], #[.agg #[.int .u64 0, .int .u64 0, .int .u64 0, .int .u64 0]], []⟩ 8 (by kernel_rfl) (by kernel_rfl) (by kernel_rfl) (by kernel_rfl)) ?_
  intro W base args ds gs before hval hW _ _
  refine law_post Try.hT Try.laidOut (tb := 4) (tys := [.arr 4 (.int .u64)]) rfl rfl (by kernel_rfl) rfl rfl rfl ?_ ⟨_, Try.func4, rfl, rfl⟩ the_call hval hW
  intro ds hds
  match ds, hds with
  | [a], _ => exact ⟨rfl, rfl, rfl⟩

theorem holds : Rows.GroupSquaresSaid :=
  OpenClaim.holds_of_wide 4 Try.f4 rfl rfl rfl rfl rfl rfl rfl ⟨rfl, rfl, rfl, rfl, rfl⟩ rfl rfl rfl rfl rfl (by kernel_rfl) Try.func4 (by kernel_rfl)
    (of_decide_eq_true (by kernel_rfl)) (by unfold Func.isWrapper; first | (rw [if_pos (by decide +kernel)]; kernel_rfl) | (rw [if_neg (by decide +kernel)]; exact ⟨rfl, rfl⟩))
    (fun os started H enc _ => lifted os started H enc)

end Go.Proofs.Ytmafojaagmneoaa
