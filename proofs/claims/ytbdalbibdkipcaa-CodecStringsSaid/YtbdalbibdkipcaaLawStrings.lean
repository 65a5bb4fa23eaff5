/- PROVED HERE: the byte string that codec reads at a place, or the error, is that of the reference: the law 'CodecStrings' returns true for every input. No condition. -/
import Derived.Test.YtbdalbibdkipcaaRows
import Derived.Test.YtbdalbibdkipcaaCoV
import Derived.Test.YtbdalbibdkipcaaCoFit
set_option linter.unusedVariables false
set_option linter.unusedSimpArgs false
set_option linter.constructorNameAsVariable false
namespace Go.Proofs.Ytbdalbibdkipcaa
open Go.SE Go.ChangeShapes Go.RowKit

theorem the_law : ∀ (x y z : D), Fit (.sl (.int .u8)) x → Fit (.int .i64) y → Fit (.int .i64) z → TopL (.sl (.int .u8)) x → TopL (.int .i64) y → TopL (.int .i64) z → SCall Try.prog 6 [(.sl (.int .u8), x), (.int .i64, y), (.int .i64, z)] (fun rs => rs = [.d .bool (.b true)]) := by
  intro x y z hx hy hz tx _ _
  obtain ⟨b, rfl, hB, _⟩ := BY.of_fit hx
  obtain ⟨p, rfl, hp⟩ := hy.i64
  obtain ⟨m, rfl, hm⟩ := hz.i64
  exact codecStrings b p m hB tx hp hm

theorem the_call : ∀ (xs : List D), FitL [.sl (.int .u8), .int .i64, .int .i64] xs → TopLs [.sl (.int .u8), .int .i64, .int .i64] xs → SCall Try.prog 6 (zipA [.sl (.int .u8), .int .i64, .int .i64] xs) (fun rs => rs = [.d .bool (.b true)])
  | [], h, _ => by simp [FitL] at h
  | [_], h, _ => by simp [FitL] at h
  | [_, _], h, _ => by simp [FitL] at h
  | _ :: _ :: _ :: _ :: _, h, _ => by simp [FitL] at h
  | [x0, x1, x2], h, t => by
    obtain ⟨h0, h1, h2, _⟩ := h
    obtain ⟨t0, t1, t2, _⟩ := t
    exact the_law x0 x1 x2 h0 h1 h2 t0 t1 t2

set_option maxRecDepth 100000 in
theorem lifted (os : Os) (started : os.Started) (H : Type) (enc : TypeId × Value → H) :
    ReturnsInHanded {} Try.checked os 6 .any (Rows.codecStringsSpec.pre6 enc Try.prog Try.f6 Rows.codecStringsRow.domain false) (Rows.codecStringsSpec.post enc Try.prog Try.f6 false true false false) := by
  refine returnsInHanded_of_change_sized (C := Try.checked) Try.own started (by kernel_rfl) Try.func6
    (ChangeSpec.witness6 (enc := enc) (C := Try.checked) false ⟨#[], #[.slice none 0 0, .int .i64 0, .int .i64 0], []⟩ 8 (by kernel_rfl) (by kernel_rfl) (by kernel_rfl) (by kernel_rfl)) ?_
  intro W base args ds gs before hval hW _ hz _
  refine law_postQ (Q := TopLs [.sl (.int .u8), .int .i64, .int .i64]) Try.hT Try.laidOut (tb := 4) (tys := [.sl (.int .u8), .int .i64, .int .i64]) rfl rfl (by kernel_rfl) rfl rfl rfl ?_ ⟨_, Try.func6, rfl, rfl⟩ the_call hval hW ?_
  · intro ds hds
    match ds, hds with
    | [a, b, c], _ => exact ⟨rfl, rfl, rfl⟩
  · intro xs p hA hf ha
    exact topl Try.hT (us := Try.f6.params.toList) rfl (by kernel_rfl) hA (weights_left _ _ _ gs (by rw [← List.append_nil Try.f6.params.toList]; exact hz)) ha hf

theorem holds : Rows.CodecStringsSaid :=
  OpenClaim.holds_of_wide 6 Try.f6 rfl rfl rfl rfl rfl rfl rfl ⟨rfl, rfl, rfl, rfl, rfl⟩ rfl rfl rfl rfl rfl (by kernel_rfl) Try.func6 (by kernel_rfl)
    (of_decide_eq_true (by kernel_rfl)) (by unfold Func.isWrapper; first | (rw [if_pos (by decide +kernel)]; kernel_rfl) | (rw [if_neg (by decide +kernel)]; exact ⟨rfl, rfl⟩))
    (fun os started H enc _ => lifted os started H enc)

end Go.Proofs.Ytbdalbibdkipcaa
