/- PROVED HERE: scalars of bytes, their sums, products and negatives are those of the reference: the law 'GroupScalars' returns true for every input. No condition. -/
import Derived.Test.YtmafojaagmneoaaRows
import Derived.Test.YtmafojaagmneoaaGrL
import Derived.Test.YtmafojaagmneoaaLaw0
set_option linter.unusedVariables false
set_option linter.unusedSimpArgs false
set_option linter.constructorNameAsVariable false
namespace Go.Proofs.Ytmafojaagmneoaa
open Go.SE Go.ChangeShapes Go.RowKit

theorem the_law : ∀ (x y z : D), Fit (.arr 32 (.int .u8)) x → Fit (.arr 4 (.int .u64)) y → Fit (.arr 4 (.int .u64)) z → SCall Try.prog 8 [(.arr 32 (.int .u8), x), (.arr 4 (.int .u64), y), (.arr 4 (.int .u64), z)] (fun rs => rs = [.d .bool (.b true)]) := by
  intro x y z hx hy hz
  obtain ⟨d, rfl, hD, hd⟩ := BY.of_arr hx
  obtain ⟨a, ha, rfl⟩ := u256_fit hy
  obtain ⟨b, hb, rfl⟩ := u256_fit hz
  exact groupScalars d a b _ hD hd ha hb rfl

theorem the_call : ∀ (xs : List D), FitL [.arr 32 (.int .u8), .arr 4 (.int .u64), .arr 4 (.int .u64)] xs → SCall Try.prog 8 (zipA [.arr 32 (.int .u8), .arr 4 (.int .u64), .arr 4 (.int .u64)] xs) (fun rs => rs = [.d .bool (.b true)])
  | [], h => by simp [FitL] at h
  | [_], h => by simp [FitL] at h
  | [_, _], h => by simp [FitL] at h
  | _ :: _ :: _ :: _ :: _, h => by simp [FitL] at h
  | [x0, x1, x2], h => by
    obtain ⟨h0, h1, h2, _⟩ := h
    exact the_law x0 x1 x2 h0 h1 h2

set_option maxRecDepth 100000 in
theorem lifted (os : Os) (started : os.Started) (H : Type) (enc : TypeId × Value → H) :
    ReturnsInHanded {} Try.checked os 8 .any (Rows.groupScalarsSpec.pre6 enc Try.prog Try.f8 Rows.groupScalarsRow.domain false) (Rows.groupScalarsSpec.post enc Try.prog Try.f8 false true false false) := by
  refine returnsInHanded_of_change (C := Try.checked) Try.own started (by kernel_rfl) Try.func8
    (ChangeSpec.witness6 (enc := enc) (C := Try.checked) false ⟨#[], #[.agg (Array.replicate 32 (.int .u8 0)), .agg #[.int .u64 0, .int .u64 0, .int .u64 0, .int .u64 0], .agg #[.int .u64 0, .int .u64 0, .int .u64 0, .int .u64 0]], []⟩ 8 (by kernel_rfl) (by kernel_rfl) (by kernel_rfl) (by kernel_rfl)) ?_
  intro W base args ds gs before hval hW _ _
  refine law_post Try.hT Try.laidOut (tb := 4) (tys := [.arr 32 (.int .u8), .arr 4 (.int .u64), .arr 4 (.int .u64)]) rfl rfl (by kernel_rfl) rfl rfl rfl ?_ ⟨_, Try.func8, rfl, rfl⟩ the_call hval hW
  intro ds hds
  match ds, hds with
  | [a, b, c], _ => exact ⟨rfl, rfl, rfl⟩

theorem holds : Rows.GroupScalarsSaid :=
  OpenClaim.holds_of_wide 8 Try.f8 rfl rfl rfl rfl rfl rfl rfl ⟨rfl, rfl, rfl, rfl, rfl⟩ rfl rfl rfl rfl rfl (by kernel_rfl) Try.func8 (by kernel_rfl)
    (of_decide_eq_true (by kernel_rfl)) (by unfold Func.isWrapper; first | (rw [if_pos (by decide +kernel)]; kernel_rfl) | (rw [if_neg (by decide +kernel)]; exact ⟨rfl, rfl⟩))
    (fun os started H enc _ => lifted os started H enc)

end Go.Proofs.Ytmafojaagmneoaa
