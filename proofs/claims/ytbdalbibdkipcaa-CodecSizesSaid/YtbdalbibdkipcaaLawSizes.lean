/- PROVED HERE: codec.Size reads at a place what the reference reads: the law 'CodecSizes' returns true for every input. No condition. -/
import Derived.Test.YtbdalbibdkipcaaRows
import Derived.Test.YtbdalbibdkipcaaCoI
import Derived.Test.YtbdalbibdkipcaaSeS
set_option linter.unusedVariables false
set_option linter.unusedSimpArgs false
set_option linter.constructorNameAsVariable false
namespace Go.Proofs.Ytbdalbibdkipcaa
open Go.SE Go.ChangeShapes Go.RowKit

theorem own : ownKnob Try.prog.godebug = none := by kernel_rfl
theorem laidOut : laidOutB Try.prog = true := by kernel_rfl

theorem BY.of_fit {x : D} (h : Fit (.sl (.int .u8)) x) : ∃ b, x = .l b ∧ BY b ∧ b.length ≤ 9223372036854775807 := by
  obtain ⟨l, rfl, hl, hb⟩ := h
  exact ⟨l, rfl, fun y hy => (hb y hy).u8, hl⟩

theorem sizes_call : ∀ (xs : List D), FitL [.sl (.int .u8), .int .i64, .int .u64] xs → SCall Try.prog 3 (zipA [.sl (.int .u8), .int .i64, .int .u64] xs) (fun rs => rs = [.d .bool (.b true)])
  | [], h | [_], h | [_, _], h => by simp [FitL] at h
  | _ :: _ :: _ :: _ :: _, h => by simp [FitL] at h
  | [x, y, z], h => by
    obtain ⟨hx, hy, hz, _⟩ := h
    obtain ⟨b, rfl, hB, hb⟩ := BY.of_fit hx
    obtain ⟨p, rfl, hp⟩ := hy.i64
    obtain ⟨k, rfl, hk⟩ := hz.u64
    exact codecSizes b p k hB hb hp (by omega)

set_option maxRecDepth 100000 in
theorem sizes_lifted (os : Os) (started : os.Started) (H : Type) (enc : TypeId × Value → H) :
    ReturnsInHanded {} Try.checked os 3 .any (Rows.codecSizesSpec.pre6 enc Try.prog Try.f3 Rows.codecSizesRow.domain false) (Rows.codecSizesSpec.post enc Try.prog Try.f3 false true false false) := by
  refine returnsInHanded_of_change (C := Try.checked) own started (by kernel_rfl) Try.func3
    (ChangeSpec.witness6 (enc := enc) (C := Try.checked) false ⟨#[], #[.slice none 0 0, .int .i64 0, .int .u64 0], []⟩ 8 (by kernel_rfl) (by kernel_rfl) (by kernel_rfl) (by kernel_rfl)) ?_
  intro W base args ds gs before hval hW _ _
  refine law_post Try.hT laidOut (tb := 4) (tys := [.sl (.int .u8), .int .i64, .int .u64]) rfl rfl (by kernel_rfl) rfl rfl rfl ?_ sizes_call hval hW
  intro ds hds
  match ds, hds with
  | [a, b, c], _ => exact ⟨rfl, rfl, rfl⟩

theorem sizes_holds : Rows.CodecSizesSaid :=
  OpenClaim.holds_of_wide 3 Try.f3 rfl rfl rfl rfl rfl rfl rfl ⟨rfl, rfl, rfl, rfl, rfl⟩ rfl rfl rfl rfl rfl (by kernel_rfl) Try.func3 (by kernel_rfl)
    (of_decide_eq_true (by kernel_rfl)) (by unfold Func.isWrapper; first | (rw [if_pos (by decide +kernel)]; kernel_rfl) | (rw [if_neg (by decide +kernel)]; exact ⟨rfl, rfl⟩))
    (fun os started H enc _ => sizes_lifted os started H enc)

end Go.Proofs.Ytbdalbibdkipcaa
