/- PROVED HERE: the integers, digests and the end that codec reads at a place are those that the reference reads: the law 'CodecReads' returns true for every input. No condition. -/
import Derived.Test.YtbdalbibdkipcaaRows
import Derived.Test.YtbdalbibdkipcaaCoK
import Derived.Test.YtbdalbibdkipcaaSeS
set_option linter.unusedVariables false
set_option linter.unusedSimpArgs false
set_option linter.constructorNameAsVariable false
namespace Go.Proofs.Ytbdalbibdkipcaa
open Go.SE Go.ChangeShapes Go.RowKit

theorem own : ownKnob Try.prog.godebug = none := by kernel_rfl
theorem laidOut : laidOutB Try.prog = true := by kernel_rfl

theorem BY.of_fit {x : D} (h : Fit (.sl (.int .u8)) x) : ∃ b, x = .l b ∧ BY b ∧ b.length ≤ 9223372036854775807 := by
  obtain ⟨l, rfl, hl, hb⟩ := h
  exact ⟨l, rfl, fun y hy => (hb y hy).u8, hl⟩
theorem BY.of_arr {x : D} {n : Nat} (h : Fit (.arr n (.int .u8)) x) : ∃ b, x = .l b ∧ BY b ∧ b.length = n := by
  obtain ⟨l, rfl, hl, hb⟩ := h
  exact ⟨l, rfl, fun y hy => (hb y hy).u8, hl⟩

theorem the_call : ∀ (xs : List D), FitL [.sl (.int .u8), .int .i64] xs → SCall Try.prog 8 (zipA [.sl (.int .u8), .int .i64] xs) (fun rs => rs = [.d .bool (.b true)])
  | [], h => by simp [FitL] at h
  | [_], h => by simp [FitL] at h
  | _ :: _ :: _ :: _, h => by simp [FitL] at h
  | [x, y], h => by
    obtain ⟨hx, hy, _⟩ := h
    obtain ⟨b, rfl, hB, hb⟩ := BY.of_fit hx
    obtain ⟨p, rfl, hp⟩ := hy.i64
    exact codecReads b p hB hb hp


set_option maxRecDepth 100000 in
theorem lifted (os : Os) (started : os.Started) (H : Type) (enc : TypeId × Value → H) :
    ReturnsInHanded {} Try.checked os 8 .any (Rows.codecReadsSpec.pre6 enc Try.prog Try.f8 Rows.codecReadsRow.domain false) (Rows.codecReadsSpec.post enc Try.prog Try.f8 false true false false) := by
  refine returnsInHanded_of_change (C := Try.checked) own started (by kernel_rfl) Try.func8
    (ChangeSpec.witness6 (enc := enc) (C := Try.checked) false ⟨#[], #[.slice none 0 0, .int .i64 0], []⟩ 8 (by kernel_rfl) (by kernel_rfl) (by kernel_rfl) (by kernel_rfl)) ?_
  intro W base args ds gs before hval hW _ _
  refine law_post Try.hT laidOut (tb := 4) (tys := [.sl (.int .u8), .int .i64]) rfl rfl (by kernel_rfl) rfl rfl rfl ?_ the_call hval hW
  intro ds hds
  match ds, hds with
  | [a, b], _ => exact ⟨rfl, rfl, rfl⟩

theorem holds : Rows.CodecReadsSaid :=
  OpenClaim.holds_of_wide 8 Try.f8 rfl rfl rfl rfl rfl rfl rfl ⟨rfl, rfl, rfl, rfl, rfl⟩ rfl rfl rfl rfl rfl (by kernel_rfl) Try.func8 (by kernel_rfl)
    (of_decide_eq_true (by kernel_rfl)) (by unfold Func.isWrapper; first | (rw [if_pos (by decide +kernel)]; kernel_rfl) | (rw [if_neg (by decide +kernel)]; exact ⟨rfl, rfl⟩))
    (fun os started H enc _ => lifted os started H enc)

end Go.Proofs.Ytbdalbibdkipcaa
