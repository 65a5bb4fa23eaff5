/- Digits, and bytes of texts. -/
import Derived.Test.YtbdalbibdkipcaaCoO
set_option linter.unusedVariables false
set_option linter.unusedSimpArgs false
set_option linter.constructorNameAsVariable false
namespace Go.Proofs
open Go.SE

/-- What a digit counts, and whether it is one. -/
def dg (n : Nat) : Nat × Bool := if 48 ≤ n ∧ n ≤ 57 then (n - 48, true) else if 97 ≤ n ∧ n ≤ 102 then (n - 87, true) else if 65 ≤ n ∧ n ≤ 70 then (n - 55, true) else (0, false)

theorem dg_cases (n : Nat) : (48 ≤ n ∧ n ≤ 57 ∧ dg n = (n - 48, true) ∧ ((n - 48 : Nat) : Int) = n - 48) ∨ (97 ≤ n ∧ n ≤ 102 ∧ dg n = (n - 87, true) ∧ ((n - 87 : Nat) : Int) = n - 97 + 10) ∨ (65 ≤ n ∧ n ≤ 70 ∧ dg n = (n - 55, true) ∧ ((n - 55 : Nat) : Int) = n - 65 + 10) ∨ (¬ (48 ≤ n ∧ n ≤ 57) ∧ ¬ (97 ≤ n ∧ n ≤ 102) ∧ ¬ (65 ≤ n ∧ n ≤ 70) ∧ dg n = (0, false)) := by
  unfold dg
  by_cases h1 : 48 ≤ n ∧ n ≤ 57
  · rw [if_pos h1]; exact .inl ⟨h1.1, h1.2, rfl, by omega⟩
  by_cases h2 : 97 ≤ n ∧ n ≤ 102
  · rw [if_neg h1, if_pos h2]; exact .inr (.inl ⟨h2.1, h2.2, rfl, by omega⟩)
  by_cases h3 : 65 ≤ n ∧ n ≤ 70
  · rw [if_neg h1, if_neg h2, if_pos h3]; exact .inr (.inr (.inl ⟨h3.1, h3.2, rfl, by omega⟩))
  · rw [if_neg h1, if_neg h2, if_neg h3]; exact .inr (.inr (.inr ⟨h1, h2, h3, rfl⟩))

set_option maxHeartbeats 4000000 in
theorem digit' (n : Nat) (hn : n < 256) : SCall Try.prog 57 [(.int .u8, .n n)] (fun rs => rs = [.d (.int .u8) (.n (dg n).1), .d .bool (.b (dg n).2)]) := by
  refine scall_intro (n := 33) (rl := [.tmp 2, .tmp 3]) (us := [5, 4]) Try.hT Try.func57 rfl rfl rfl rfl rfl (Nat.le_of_ble_eq_true rfl) ?_
  intro w0
  rcases dg_cases n with ⟨h1, h2, e, hI⟩ | ⟨h1, h2, e, hI⟩ | ⟨h1, h2, e, hI⟩ | ⟨h1, h2, h3, e⟩
  · rw [e, hI]
    repeat' (first | (exfalso; omega) | (refine HIf_dec (fun _ => ?_) (fun _ => ?_)) | (simp -dsimp -implicitDefEqProofs (disch := omega) only [↓gpre, ↓bldS, ↓bld, ↓reduceIte, ↓gmore, gpost, gall, keepT, den, del, upd, dels, refs, hasTy, sArgs, aRefs, rvs, nodupB, memB, app, pTm, Ty.bytes, kbytes, Ty.zeroD, Ty.size, Ty.cmp, Ty.depth, Go.SE.look, reduceCtorEq, Nat.reduceAdd, Nat.reduceSub, Nat.reduceMul, Nat.reduceEqDiff, Nat.reduceLT, Nat.reduceLeDiff, Nat.reduceMod, Nat.reduceDiv, Nat.reducePow, Nat.reduceBEq, Int.reduceToNat, Int.reduceLE, Int.reduceLT, Int.reduceEq, Int.reduceAdd, Int.reduceMul, Int.reduceSub, Int.reduceNeg, Int.reduceNe, Try.TS]))
  · rw [e, hI]
    repeat' (first | (exfalso; omega) | (refine HIf_dec (fun _ => ?_) (fun _ => ?_)) | (simp -dsimp -implicitDefEqProofs (disch := omega) only [↓gpre, ↓bldS, ↓bld, ↓reduceIte, ↓gmore, gpost, gall, keepT, den, del, upd, dels, refs, hasTy, sArgs, aRefs, rvs, nodupB, memB, app, pTm, Ty.bytes, kbytes, Ty.zeroD, Ty.size, Ty.cmp, Ty.depth, Go.SE.look, reduceCtorEq, Nat.reduceAdd, Nat.reduceSub, Nat.reduceMul, Nat.reduceEqDiff, Nat.reduceLT, Nat.reduceLeDiff, Nat.reduceMod, Nat.reduceDiv, Nat.reducePow, Nat.reduceBEq, Int.reduceToNat, Int.reduceLE, Int.reduceLT, Int.reduceEq, Int.reduceAdd, Int.reduceMul, Int.reduceSub, Int.reduceNeg, Int.reduceNe, Try.TS]))
  · rw [e, hI]
    repeat' (first | (exfalso; omega) | (refine HIf_dec (fun _ => ?_) (fun _ => ?_)) | (simp -dsimp -implicitDefEqProofs (disch := omega) only [↓gpre, ↓bldS, ↓bld, ↓reduceIte, ↓gmore, gpost, gall, keepT, den, del, upd, dels, refs, hasTy, sArgs, aRefs, rvs, nodupB, memB, app, pTm, Ty.bytes, kbytes, Ty.zeroD, Ty.size, Ty.cmp, Ty.depth, Go.SE.look, reduceCtorEq, Nat.reduceAdd, Nat.reduceSub, Nat.reduceMul, Nat.reduceEqDiff, Nat.reduceLT, Nat.reduceLeDiff, Nat.reduceMod, Nat.reduceDiv, Nat.reducePow, Nat.reduceBEq, Int.reduceToNat, Int.reduceLE, Int.reduceLT, Int.reduceEq, Int.reduceAdd, Int.reduceMul, Int.reduceSub, Int.reduceNeg, Int.reduceNe, Try.TS]))
  · rw [e]
    repeat' (first | (exfalso; omega) | (refine HIf_dec (fun _ => ?_) (fun _ => ?_)) | (simp -dsimp -implicitDefEqProofs (disch := omega) only [↓gpre, ↓bldS, ↓bld, ↓reduceIte, ↓gmore, gpost, gall, keepT, den, del, upd, dels, refs, hasTy, sArgs, aRefs, rvs, nodupB, memB, app, pTm, Ty.bytes, kbytes, Ty.zeroD, Ty.size, Ty.cmp, Ty.depth, Go.SE.look, reduceCtorEq, Nat.reduceAdd, Nat.reduceSub, Nat.reduceMul, Nat.reduceEqDiff, Nat.reduceLT, Nat.reduceLeDiff, Nat.reduceMod, Nat.reduceDiv, Nat.reducePow, Nat.reduceBEq, Int.reduceToNat, Int.reduceLE, Int.reduceLT, Int.reduceEq, Int.reduceAdd, Int.reduceMul, Int.reduceSub, Int.reduceNeg, Int.reduceNe, Try.TS]))

set_option maxHeartbeats 4000000 in
theorem halfRef (n : Nat) (hn : n < 256) : SCall Try.prog 58 [(.int .u8, .n n)] (fun rs => rs = [.d (.int .u8) (.n (dg n).1), .d .bool (.b (dg n).2)]) := by
  refine scall_intro (n := 33) (rl := [.tmp 2, .tmp 3]) (us := [5, 4]) Try.hT Try.func58 rfl rfl rfl rfl rfl (Nat.le_of_ble_eq_true rfl) ?_
  intro w0
  rcases dg_cases n with ⟨h1, h2, e, hI⟩ | ⟨h1, h2, e, hI⟩ | ⟨h1, h2, e, hI⟩ | ⟨h1, h2, h3, e⟩
  · rw [e, hI]
    repeat' (first | (exfalso; omega) | (refine HIf_dec (fun _ => ?_) (fun _ => ?_)) | (simp -dsimp -implicitDefEqProofs (disch := omega) only [↓gpre, ↓bldS, ↓bld, ↓reduceIte, ↓gmore, gpost, gall, keepT, den, del, upd, dels, refs, hasTy, sArgs, aRefs, rvs, nodupB, memB, app, pTm, Ty.bytes, kbytes, Ty.zeroD, Ty.size, Ty.cmp, Ty.depth, Go.SE.look, reduceCtorEq, Nat.reduceAdd, Nat.reduceSub, Nat.reduceMul, Nat.reduceEqDiff, Nat.reduceLT, Nat.reduceLeDiff, Nat.reduceMod, Nat.reduceDiv, Nat.reducePow, Nat.reduceBEq, Int.reduceToNat, Int.reduceLE, Int.reduceLT, Int.reduceEq, Int.reduceAdd, Int.reduceMul, Int.reduceSub, Int.reduceNeg, Int.reduceNe, Try.TS]))
  · rw [e, hI]
    repeat' (first | (exfalso; omega) | (refine HIf_dec (fun _ => ?_) (fun _ => ?_)) | (simp -dsimp -implicitDefEqProofs (disch := omega) only [↓gpre, ↓bldS, ↓bld, ↓reduceIte, ↓gmore, gpost, gall, keepT, den, del, upd, dels, refs, hasTy, sArgs, aRefs, rvs, nodupB, memB, app, pTm, Ty.bytes, kbytes, Ty.zeroD, Ty.size, Ty.cmp, Ty.depth, Go.SE.look, reduceCtorEq, Nat.reduceAdd, Nat.reduceSub, Nat.reduceMul, Nat.reduceEqDiff, Nat.reduceLT, Nat.reduceLeDiff, Nat.reduceMod, Nat.reduceDiv, Nat.reducePow, Nat.reduceBEq, Int.reduceToNat, Int.reduceLE, Int.reduceLT, Int.reduceEq, Int.reduceAdd, Int.reduceMul, Int.reduceSub, Int.reduceNeg, Int.reduceNe, Try.TS]))
  · rw [e, hI]
    repeat' (first | (exfalso; omega) | (refine HIf_dec (fun _ => ?_) (fun _ => ?_)) | (simp -dsimp -implicitDefEqProofs (disch := omega) only [↓gpre, ↓bldS, ↓bld, ↓reduceIte, ↓gmore, gpost, gall, keepT, den, del, upd, dels, refs, hasTy, sArgs, aRefs, rvs, nodupB, memB, app, pTm, Ty.bytes, kbytes, Ty.zeroD, Ty.size, Ty.cmp, Ty.depth, Go.SE.look, reduceCtorEq, Nat.reduceAdd, Nat.reduceSub, Nat.reduceMul, Nat.reduceEqDiff, Nat.reduceLT, Nat.reduceLeDiff, Nat.reduceMod, Nat.reduceDiv, Nat.reducePow, Nat.reduceBEq, Int.reduceToNat, Int.reduceLE, Int.reduceLT, Int.reduceEq, Int.reduceAdd, Int.reduceMul, Int.reduceSub, Int.reduceNeg, Int.reduceNe, Try.TS]))
  · rw [e]
    repeat' (first | (exfalso; omega) | (refine HIf_dec (fun _ => ?_) (fun _ => ?_)) | (simp -dsimp -implicitDefEqProofs (disch := omega) only [↓gpre, ↓bldS, ↓bld, ↓reduceIte, ↓gmore, gpost, gall, keepT, den, del, upd, dels, refs, hasTy, sArgs, aRefs, rvs, nodupB, memB, app, pTm, Ty.bytes, kbytes, Ty.zeroD, Ty.size, Ty.cmp, Ty.depth, Go.SE.look, reduceCtorEq, Nat.reduceAdd, Nat.reduceSub, Nat.reduceMul, Nat.reduceEqDiff, Nat.reduceLT, Nat.reduceLeDiff, Nat.reduceMod, Nat.reduceDiv, Nat.reducePow, Nat.reduceBEq, Int.reduceToNat, Int.reduceLE, Int.reduceLT, Int.reduceEq, Int.reduceAdd, Int.reduceMul, Int.reduceSub, Int.reduceNeg, Int.reduceNe, Try.TS]))

set_option maxHeartbeats 2000000 in
theorem digitRef (n : Nat) (hn : n < 16) : SCall Try.prog 59 [(.int .u8, .n n)] (fun rs => rs = [.d (.int .u8) (.n (hx n))]) := by
  refine scall_intro (n := 10) (rl := [.tmp 2]) (us := [5]) Try.hT Try.func59 rfl rfl rfl rfl rfl (Nat.le_of_ble_eq_true rfl) ?_
  intro w0
  simp -dsimp -implicitDefEqProofs (disch := omega) only [↓gpre, ↓bldS, ↓bld, ↓reduceIte, ↓gmore, gpost, gall, keepT, den, del, upd, dels, refs, hasTy, sArgs, aRefs, rvs, nodupB, memB, app, pTm, Ty.bytes, kbytes, Ty.zeroD, Ty.size, Ty.cmp, Ty.depth, Go.SE.look, reduceCtorEq, Nat.reduceAdd, Nat.reduceSub, Nat.reduceMul, Nat.reduceEqDiff, Nat.reduceLT, Nat.reduceLeDiff, Nat.reduceMod, Nat.reduceDiv, Nat.reducePow, Nat.reduceBEq, Int.reduceToNat, Int.reduceLE, Int.reduceLT, Int.reduceEq, Int.reduceAdd, Int.reduceMul, Int.reduceSub, Int.reduceNeg, Int.reduceNe, Try.TS]
  refine HIf_dec (a := ()) (b := ()) (fun h1 => ?_) (fun h1 => ?_)
  · have e : ((hx n : Nat) : Int) = 48 + n := by unfold hx; rw [if_pos (by omega)]; omega
    rw [e]
    simp -dsimp -implicitDefEqProofs (disch := omega) only [↓gpre, ↓bldS, ↓bld, ↓reduceIte, ↓gmore, gpost, gall, keepT, den, del, upd, dels, refs, hasTy, sArgs, aRefs, rvs, nodupB, memB, app, pTm, Ty.bytes, kbytes, Ty.zeroD, Ty.size, Ty.cmp, Ty.depth, Go.SE.look, reduceCtorEq, Nat.reduceAdd, Nat.reduceSub, Nat.reduceMul, Nat.reduceEqDiff, Nat.reduceLT, Nat.reduceLeDiff, Nat.reduceMod, Nat.reduceDiv, Nat.reducePow, Nat.reduceBEq, Int.reduceToNat, Int.reduceLE, Int.reduceLT, Int.reduceEq, Int.reduceAdd, Int.reduceMul, Int.reduceSub, Int.reduceNeg, Int.reduceNe, Try.TS]
  · have e : ((hx n : Nat) : Int) = 97 + n - 10 := by unfold hx; rw [if_neg (by omega)]; omega
    rw [e]
    simp -dsimp -implicitDefEqProofs (disch := omega) only [↓gpre, ↓bldS, ↓bld, ↓reduceIte, ↓gmore, gpost, gall, keepT, den, del, upd, dels, refs, hasTy, sArgs, aRefs, rvs, nodupB, memB, app, pTm, Ty.bytes, kbytes, Ty.zeroD, Ty.size, Ty.cmp, Ty.depth, Go.SE.look, reduceCtorEq, Nat.reduceAdd, Nat.reduceSub, Nat.reduceMul, Nat.reduceEqDiff, Nat.reduceLT, Nat.reduceLeDiff, Nat.reduceMod, Nat.reduceDiv, Nat.reducePow, Nat.reduceBEq, Int.reduceToNat, Int.reduceLE, Int.reduceLT, Int.reduceEq, Int.reduceAdd, Int.reduceMul, Int.reduceSub, Int.reduceNeg, Int.reduceNe, Try.TS]
end Go.Proofs
