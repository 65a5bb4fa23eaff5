/- PROVED HERE: the text of bytes and the bytes of a text, or the error, are those of the reference, and a text is read back: the law 'CodecHex' returns true for every input. No condition. -/
import Derived.Test.YtbdalbibdkipcaaRows
import Derived.Test.YtbdalbibdkipcaaCoS
import Derived.Test.YtbdalbibdkipcaaCoFit
set_option linter.unusedVariables false
set_option linter.unusedSimpArgs false
set_option linter.constructorNameAsVariable false
namespace Go.Proofs.Ytbdalbibdkipcaa
open Go.SE Go.ChangeShapes Go.RowKit

theorem the_law : ∀ (x y : D), Fit (.sl (.int .u8)) x → Fit .str y → SCall Try.prog 9 [(.sl (.int .u8), x), (.str, y)] (fun rs => rs = [.d .bool (.b true)]) := by
  intro x y hx hy
  obtain ⟨b, rfl, hB, hb⟩ := BY.of_fit hx
  obtain ⟨t, rfl, _⟩ := hy
  exact codecHex b t hB hb

theorem the_call : ∀ (xs : List D), FitL [.sl (.int .u8), .str] xs → SCall Try.prog 9 (zipA [.sl (.int .u8), .str] xs) (fun rs => rs = [.d .bool (.b true)])
  | [], h => by simp [FitL] at h
  | [_], h => by simp [FitL] at h
  | _ :: _ :: _ :: _, h => by simp [FitL] at h
  | [x0, x1], h => by
    obtain ⟨h0, h1, _⟩ := h
    exact the_law x0 x1 h0 h1

set_option maxRecDepth 100000 in
theorem lifted (os : Os) (started : os.Started) (H : Type) (enc : TypeId × Value → H) :
    ReturnsInHanded {} Try.checked os 9 .any (Rows.codecHexSpec.pre6 enc Try.prog Try.f9 Rows.codecHexRow.domain false) (Rows.codecHexSpec.post enc Try.prog Try.f9 false true false false) := by
  refine returnsInHanded_of_change (C := Try.checked) Try.own started (by kernel_rfl) Try.func9
    (ChangeSpec.witness6 (enc := enc) (C := Try.checked) false ⟨#[], #[.slice none 0 0, .string .empty], []⟩ 8 (by kernel_rfl) (by kernel_rfl) (by kernel_rfl) (by kernel_rfl)) ?_
  intro W base args ds gs before hval hW _ _
  refine law_post Try.hT Try.laidOut (tb := 4) (tys := [.sl (.int .u8), .str]) rfl rfl (by kernel_rfl) rfl rfl rfl ?_ ⟨_, Try.func9, rfl, rfl⟩ the_call hval hW
  intro ds hds
  match ds, hds with
  | [a, b], _ => exact ⟨rfl, rfl, rfl⟩

theorem holds : Rows.CodecHexSaid :=
  OpenClaim.holds_of_wide 9 Try.f9 rfl rfl rfl rfl rfl rfl rfl ⟨rfl, rfl, rfl, rfl, rfl⟩ rfl rfl rfl rfl rfl (by kernel_rfl) Try.func9 (by kernel_rfl)
    (of_decide_eq_true (by kernel_rfl)) (by unfold Func.isWrapper; first | (rw [if_pos (by decide +kernel)]; kernel_rfl) | (rw [if_neg (by decide +kernel)]; exact ⟨rfl, rfl⟩))
    (fun os started H enc _ => lifted os started H enc)

end Go.Proofs.Ytbdalbibdkipcaa
