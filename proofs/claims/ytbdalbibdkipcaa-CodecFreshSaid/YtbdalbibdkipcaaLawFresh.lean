/- PROVED HERE: what is appended leaves the memory behind its argument as it was, and a byte string that is read shares none with the bytes it was read from: the law 'CodecFresh' returns true for every input. No condition. -/
import Derived.Test.YtbdalbibdkipcaaRows
import Derived.Test.YtbdalbibdkipcaaCoU
import Derived.Test.YtbdalbibdkipcaaCoFit
set_option linter.unusedVariables false
set_option linter.unusedSimpArgs false
set_option linter.constructorNameAsVariable false
namespace Go.Proofs.Ytbdalbibdkipcaa
open Go.SE Go.ChangeShapes Go.RowKit

theorem the_law : ∀ (x y : D), Fit (.sl (.int .u8)) x → Fit (.int .u64) y → SCall Try.prog 7 [(.sl (.int .u8), x), (.int .u64, y)] (fun rs => rs = [.d .bool (.b true)]) := by
  intro x y hx hy
  obtain ⟨b, rfl, hB, hb⟩ := BY.of_fit hx
  obtain ⟨n, rfl, hn⟩ := hy.u64
  exact codecFresh b n hB hb hn

theorem the_call : ∀ (xs : List D), FitL [.sl (.int .u8), .int .u64] xs → SCall Try.prog 7 (zipA [.sl (.int .u8), .int .u64] xs) (fun rs => rs = [.d .bool (.b true)])
  | [], h => by simp [FitL] at h
  | [_], h => by simp [FitL] at h
  | _ :: _ :: _ :: _, h => by simp [FitL] at h
  | [x0, x1], h => by
    obtain ⟨h0, h1, _⟩ := h
    exact the_law x0 x1 h0 h1

set_option maxRecDepth 100000 in
theorem lifted (os : Os) (started : os.Started) (H : Type) (enc : TypeId × Value → H) :
    ReturnsInHanded {} Try.checked os 7 .any (Rows.codecFreshSpec.pre6 enc Try.prog Try.f7 Rows.codecFreshRow.domain false) (Rows.codecFreshSpec.post enc Try.prog Try.f7 false true false false) := by
  refine returnsInHanded_of_change (C := Try.checked) Try.own started (by kernel_rfl) Try.func7
    (ChangeSpec.witness6 (enc := enc) (C := Try.checked) false ⟨#[], #[.slice none 0 0, .int .u64 0], []⟩ 8 (by kernel_rfl) (by kernel_rfl) (by kernel_rfl) (by kernel_rfl)) ?_
  intro W base args ds gs before hval hW _ _
  refine law_post Try.hT Try.laidOut (tb := 4) (tys := [.sl (.int .u8), .int .u64]) rfl rfl (by kernel_rfl) rfl rfl rfl ?_ ⟨_, Try.func7, rfl, rfl⟩ the_call hval hW
  intro ds hds
  match ds, hds with
  | [a, b], _ => exact ⟨rfl, rfl, rfl⟩

theorem holds : Rows.CodecFreshSaid :=
  OpenClaim.holds_of_wide 7 Try.f7 rfl rfl rfl rfl rfl rfl rfl ⟨rfl, rfl, rfl, rfl, rfl⟩ rfl rfl rfl rfl rfl (by kernel_rfl) Try.func7 (by kernel_rfl)
    (of_decide_eq_true (by kernel_rfl)) (by unfold Func.isWrapper; first | (rw [if_pos (by decide +kernel)]; kernel_rfl) | (rw [if_neg (by decide +kernel)]; exact ⟨rfl, rfl⟩))
    (fun os started H enc _ => lifted os started H enc)

end Go.Proofs.Ytbdalbibdkipcaa
