/- PROVED HERE: what is appended by codec is read back by it, and the place behind it is the end: the law 'CodecBack' returns true for every input. No condition. -/
import Derived.Test.YtbdalbibdkipcaaRows
import Derived.Test.YtbdalbibdkipcaaCoO
import Derived.Test.YtbdalbibdkipcaaCoFit
set_option linter.unusedVariables false
set_option linter.unusedSimpArgs false
set_option linter.constructorNameAsVariable false
namespace Go.Proofs.Ytbdalbibdkipcaa
open Go.SE Go.ChangeShapes Go.RowKit

theorem the_law : ∀ (x y z u : D), Fit (.sl (.int .u8)) x → Fit (.sl (.int .u8)) y → Fit (.int .u64) z → Fit (.arr 32 (.int .u8)) u → SCall Try.prog 11 [(.sl (.int .u8), x), (.sl (.int .u8), y), (.int .u64, z), (.arr 32 (.int .u8), u)] (fun rs => rs = [.d .bool (.b true)]) := by
  intro x y z u hx hy hz hu
  obtain ⟨b, rfl, hB, hb⟩ := BY.of_fit hx
  obtain ⟨s, rfl, hS, hs⟩ := BY.of_fit hy
  obtain ⟨k, rfl, hk⟩ := hz.u64
  obtain ⟨d, rfl, hD, hd⟩ := BY.of_arr hu
  exact codecBack b s k d hB hS hD hb hs hk hd

theorem the_call : ∀ (xs : List D), FitL [.sl (.int .u8), .sl (.int .u8), .int .u64, .arr 32 (.int .u8)] xs → SCall Try.prog 11 (zipA [.sl (.int .u8), .sl (.int .u8), .int .u64, .arr 32 (.int .u8)] xs) (fun rs => rs = [.d .bool (.b true)])
  | [], h => by simp [FitL] at h
  | [_], h => by simp [FitL] at h
  | [_, _], h => by simp [FitL] at h
  | [_, _, _], h => by simp [FitL] at h
  | _ :: _ :: _ :: _ :: _ :: _, h => by simp [FitL] at h
  | [x0, x1, x2, x3], h => by
    obtain ⟨h0, h1, h2, h3, _⟩ := h
    exact the_law x0 x1 x2 x3 h0 h1 h2 h3

set_option maxRecDepth 100000 in
theorem lifted (os : Os) (started : os.Started) (H : Type) (enc : TypeId × Value → H) :
    ReturnsInHanded {} Try.checked os 11 .any (Rows.codecBackSpec.pre6 enc Try.prog Try.f11 Rows.codecBackRow.domain false) (Rows.codecBackSpec.post enc Try.prog Try.f11 false true false false) := by
  refine returnsInHanded_of_change (C := Try.checked) Try.own started (by kernel_rfl) Try.func11
    (ChangeSpec.witness6 (enc := enc) (C := Try.checked) false ⟨#[], #[.slice none 0 0, .slice none 0 0, .int .u64 0, .agg (Array.replicate 32 (.int .u8 0))], []⟩ 8 (by kernel_rfl) (by kernel_rfl) (by kernel_rfl) (by kernel_rfl)) ?_
  intro W base args ds gs before hval hW _ _
  refine law_post Try.hT Try.laidOut (tb := 4) (tys := [.sl (.int .u8), .sl (.int .u8), .int .u64, .arr 32 (.int .u8)]) rfl rfl (by kernel_rfl) rfl rfl rfl ?_ ⟨_, Try.func11, rfl, rfl⟩ the_call hval hW
  intro ds hds
  match ds, hds with
  | [a, b, c, d], _ => exact ⟨rfl, rfl, rfl⟩

theorem holds : Rows.CodecBackSaid :=
  OpenClaim.holds_of_wide 11 Try.f11 rfl rfl rfl rfl rfl rfl rfl ⟨rfl, rfl, rfl, rfl, rfl⟩ rfl rfl rfl rfl rfl (by kernel_rfl) Try.func11 (by kernel_rfl)
    (of_decide_eq_true (by kernel_rfl)) (by unfold Func.isWrapper; first | (rw [if_pos (by decide +kernel)]; kernel_rfl) | (rw [if_neg (by decide +kernel)]; exact ⟨rfl, rfl⟩))
    (fun os started H enc _ => lifted os started H enc)

end Go.Proofs.Ytbdalbibdkipcaa
