/- PROVED HERE: the power of a sum of scalars is the product of the powers, and that of a negative the inverse: the law 'GroupAdds' returns true for every input. No condition. -/
import Derived.Test.YtmafojaagmneoaaRows
import Derived.Test.YtmafojaagmneoaaGrK
import Derived.Test.YtmafojaagmneoaaLaw0
set_option linter.unusedVariables false
set_option linter.unusedSimpArgs false
set_option linter.constructorNameAsVariable false
namespace Go.Proofs.Ytmafojaagmneoaa
open Go.SE Go.ChangeShapes Go.RowKit

theorem the_law : ∀ (x y : D), Fit (.arr 32 (.int .u8)) x → Fit (.arr 32 (.int .u8)) y → SCall Try.prog 7 [(.arr 32 (.int .u8), x), (.arr 32 (.int .u8), y)] (fun rs => rs = [.d .bool (.b true)]) := by
  intro x y hx hy
  obtain ⟨d, rfl, hD, hd⟩ := BY.of_arr hx
  obtain ⟨e, rfl, hE, he⟩ := BY.of_arr hy
  exact groupAdds d e _ hD hd hE he rfl

theorem the_call : ∀ (xs : List D), FitL [.arr 32 (.int .u8), .arr 32 (.int .u8)] xs → SCall Try.prog 7 (zipA [.arr 32 (.int .u8), .arr 32 (.int .u8)] xs) (fun rs => rs = [.d .bool (.b true)])
  | [], h => by simp [FitL] at h
  | [_], h => by simp [FitL] at h
  | _ :: _ :: _ :: _, h => by simp [FitL] at h
  | [x0, x1], h => by
    obtain ⟨h0, h1, _⟩ := h
    exact the_law x0 x1 h0 h1

set_option maxRecDepth 100000 in
theorem lifted (os : Os) (started : os.Started) (H : Type) (enc : TypeId × Value → H) :
    ReturnsInHanded {} Try.checked os 7 .any (Rows.groupAddsSpec.pre6 enc Try.prog Try.f7 Rows.groupAddsRow.domain false) (Rows.groupAddsSpec.post enc Try.prog Try.f7 false true false false) := by
  refine returnsInHanded_of_change (C := Try.checked) Try.own started (by kernel_rfl) Try.func7
    (ChangeSpec.witness6 (enc := enc) (C := Try.checked) false ⟨#[], #[.agg (Array.replicate 32 (.int .u8 0)), .agg (Array.replicate 32 (.int .u8 0))], []⟩ 8 (by kernel_rfl) (by kernel_rfl) (by kernel_rfl) (by kernel_rfl)) ?_
  intro W base args ds gs before hval hW _ _
  refine law_post Try.hT Try.laidOut (tb := 4) (tys := [.arr 32 (.int .u8), .arr 32 (.int .u8)]) rfl rfl (by kernel_rfl) rfl rfl rfl ?_ ⟨_, Try.func7, rfl, rfl⟩ the_call hval hW
  intro ds hds
  match ds, hds with
  | [a, b], _ => exact ⟨rfl, rfl, rfl⟩

theorem holds : Rows.GroupAddsSaid :=
  OpenClaim.holds_of_wide 7 Try.f7 rfl rfl rfl rfl rfl rfl rfl ⟨rfl, rfl, rfl, rfl, rfl⟩ rfl rfl rfl rfl rfl (by kernel_rfl) Try.func7 (by kernel_rfl)
    (of_decide_eq_true (by kernel_rfl)) (by unfold Func.isWrapper; first | (rw [if_pos (by decide +kernel)]; kernel_rfl) | (rw [if_neg (by decide +kernel)]; exact ⟨rfl, rfl⟩))
    (fun os started H enc _ => lifted os started H enc)

end Go.Proofs.Ytmafojaagmneoaa
