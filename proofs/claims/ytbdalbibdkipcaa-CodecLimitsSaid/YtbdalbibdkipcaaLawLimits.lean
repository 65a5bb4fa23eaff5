/- PROVED HERE: a text of digits is too long from 400001 digits on, and not before: the law 'CodecLimits' returns true for every input. No condition. -/
import Derived.Test.YtbdalbibdkipcaaRows
import Derived.Test.YtbdalbibdkipcaaCoT
import Derived.Test.YtbdalbibdkipcaaCoFit
set_option linter.unusedVariables false
set_option linter.unusedSimpArgs false
set_option linter.constructorNameAsVariable false
namespace Go.Proofs.Ytbdalbibdkipcaa
open Go.SE Go.ChangeShapes Go.RowKit

theorem the_law : ∀ (x : D), Fit (.int .u8) x → SCall Try.prog 10 [(.int .u8, x)] (fun rs => rs = [.d .bool (.b true)]) := by
  intro x hx
  obtain ⟨k, rfl, hk⟩ := hx.u8
  exact codecLimits k hk

theorem the_call : ∀ (xs : List D), FitL [.int .u8] xs → SCall Try.prog 10 (zipA [.int .u8] xs) (fun rs => rs = [.d .bool (.b true)])
  | [], h => by simp [FitL] at h
  | _ :: _ :: _, h => by simp [FitL] at h
  | [x0], h => by
    obtain ⟨h0, _⟩ := h
    exact the_law x0 h0

set_option maxRecDepth 100000 in
theorem lifted (os : Os) (started : os.Started) (H : Type) (enc : TypeId × Value → H) :
    ReturnsInHanded {} Try.checked os 10 .any (Rows.codecLimitsSpec.pre6 enc Try.prog Try.f10 Rows.codecLimitsRow.domain false) (Rows.codecLimitsSpec.post enc Try.prog Try.f10 false true false false) := by
  refine returnsInHanded_of_change (C := Try.checked) Try.own started (by kernel_rfl) Try.func10
    (ChangeSpec.witness6 (enc := enc) (C := Try.checked) false ⟨#[], #[.int .u8 0], []⟩ 8 (by kernel_rfl) (by kernel_rfl) (by kernel_rfl) (by kernel_rfl)) ?_
  intro W base args ds gs before hval hW _ _
  refine law_post Try.hT Try.laidOut (tb := 4) (tys := [.int .u8]) rfl rfl (by kernel_rfl) rfl rfl rfl ?_ ⟨_, Try.func10, rfl, rfl⟩ the_call hval hW
  intro ds hds
  match ds, hds with
  | [a], _ => exact ⟨rfl, rfl, rfl⟩

theorem holds : Rows.CodecLimitsSaid :=
  OpenClaim.holds_of_wide 10 Try.f10 rfl rfl rfl rfl rfl rfl rfl ⟨rfl, rfl, rfl, rfl, rfl⟩ rfl rfl rfl rfl rfl (by kernel_rfl) Try.func10 (by kernel_rfl)
    (of_decide_eq_true (by kernel_rfl)) (by unfold Func.isWrapper; first | (rw [if_pos (by decide +kernel)]; kernel_rfl) | (rw [if_neg (by decide +kernel)]; exact ⟨rfl, rfl⟩))
    (fun os started H enc _ => lifted os started H enc)

end Go.Proofs.Ytbdalbibdkipcaa
