/- Merged: WiK WiL WiM GrA GrB NtPrime GrC GrD NtGroup GrE By GrF GrG. -/
import Derived.KernelRfl
import Derived.Test.YtmafojaagmneoaaDoorMSg2
set_option linter.unusedVariables false
set_option linter.unusedSimpArgs false
set_option linter.constructorNameAsVariable false
/- Numbers of 256 bits: division, by the program; lengths. -/
namespace Go.Proofs
open Go.SE

theorem bl_top {a x k : Nat} (hx : x ≠ 0) (ha : a < 2 ^ k) : bl (a + 2 ^ k * x) = k + bl x := by
  have hp := Nat.two_pow_pos k
  have h := bl_div (x := a + 2 ^ k * x) k (Nat.le_trans (Nat.le_mul_of_pos_right _ (by omega)) (Nat.le_add_left _ _))
  rw [Nat.add_mul_div_left _ _ hp, Nat.div_eq_of_lt ha, Nat.zero_add] at h
  exact h

set_option maxHeartbeats 1000000 in
theorem wlen (n : Nat) (hn : n < 115792089237316195423570985008687907853269984665640564039457584007913129639936) : SCall Tryd.prog 88 [(.arr 4 (.int .u64), u256 n)] (fun rs => rs = [.d (.int .i64) (.n (bl n))]) := by
  obtain ⟨a, b, c, d, ha, hb, hc, hd, en, eu⟩ := u256_open n hn
  rw [eu]
  refine scall_intro (n := 19) (rl := [.tmp 2]) (us := [3]) Tryd.hT Tryd.func88 rfl rfl rfl rfl rfl (Nat.le_of_ble_eq_true rfl) ?_
  intro w0 hL0
  simp -dsimp -implicitDefEqProofs (disch := omega) only [↓reduceIte, ↓gA, gB, refs, den, hasTy, Ty.cmp, Ty.depth, reduceCtorEq, Nat.reduceAdd, Nat.reduceSub, Nat.reduceMul, Nat.reduceEqDiff, Nat.reduceLT, Nat.reduceLeDiff, Nat.reduceMod, Nat.reduceDiv, Nat.reducePow, Nat.reduceBEq, Int.reduceToNat, Int.reduceLE, Int.reduceLT, Int.reduceEq, Int.reduceAdd, Int.reduceMul, Int.reduceSub, Int.reduceNeg, Int.reduceNe, Tryd.TS, Tryd.EV]
  refine sunrollK [1, 2, 3] Tryd.hT ?_; simp -dsimp -implicitDefEqProofs (disch := omega) only [↓reduceIte, ↓gA, gB, refs, den, hasTy, Ty.cmp, Ty.depth, reduceCtorEq, Nat.reduceAdd, Nat.reduceSub, Nat.reduceMul, Nat.reduceEqDiff, Nat.reduceLT, Nat.reduceLeDiff, Nat.reduceMod, Nat.reduceDiv, Nat.reducePow, Nat.reduceBEq, Int.reduceToNat, Int.reduceLE, Int.reduceLT, Int.reduceEq, Int.reduceAdd, Int.reduceMul, Int.reduceSub, Int.reduceNeg, Int.reduceNe, Tryd.TS, Tryd.EV]
  refine HIf_ndec (a := ()) (b := ()) (fun zd => ?_) (fun zd => ?_)
  · simp -dsimp -implicitDefEqProofs (disch := omega) only [↓reduceIte, ↓gA, gB, refs, den, hasTy, Ty.cmp, Ty.depth, reduceCtorEq, Nat.reduceAdd, Nat.reduceSub, Nat.reduceMul, Nat.reduceEqDiff, Nat.reduceLT, Nat.reduceLeDiff, Nat.reduceMod, Nat.reduceDiv, Nat.reducePow, Nat.reduceBEq, Int.reduceToNat, Int.reduceLE, Int.reduceLT, Int.reduceEq, Int.reduceAdd, Int.reduceMul, Int.reduceSub, Int.reduceNeg, Int.reduceNe, Tryd.TS, Tryd.EV]
    first | (with_reducible refine HCall_mono (len64 d hd) ?_; rintro rs rfl) | (with_reducible refine HCallF_mono (len64 d hd) (by first | rfl | simp [flatR, RV.flat, RV.isD, Ty.flat]) ?_) | (refine SCall.mono (len64 d hd) ?_; rintro rs rfl)
    have := bl_le (show d < 2 ^ 64 from hd)
    simp -dsimp -implicitDefEqProofs (disch := omega) only [↓reduceIte, ↓gA, gB, refs, den, hasTy, Ty.cmp, Ty.depth, reduceCtorEq, Nat.reduceAdd, Nat.reduceSub, Nat.reduceMul, Nat.reduceEqDiff, Nat.reduceLT, Nat.reduceLeDiff, Nat.reduceMod, Nat.reduceDiv, Nat.reducePow, Nat.reduceBEq, Int.reduceToNat, Int.reduceLE, Int.reduceLT, Int.reduceEq, Int.reduceAdd, Int.reduceMul, Int.reduceSub, Int.reduceNeg, Int.reduceNe, Tryd.TS, Tryd.EV, show IntKind.i64.wrap (192 + ((bl d : Nat) : Int)) = ((192 + bl d : Nat) : Int) by rw [IntWalk.i64_in _ (by omega)]; omega]
    rw [show bl n = 192 + bl d from by rw [show n = (a + 18446744073709551616 * b + 340282366920938463463374607431768211456 * c) + 2 ^ 192 * d by omega]; exact bl_top (by omega) (by omega)]
  simp -dsimp -implicitDefEqProofs (disch := omega) only [↓reduceIte, ↓gA, gB, refs, den, hasTy, Ty.cmp, Ty.depth, reduceCtorEq, Nat.reduceAdd, Nat.reduceSub, Nat.reduceMul, Nat.reduceEqDiff, Nat.reduceLT, Nat.reduceLeDiff, Nat.reduceMod, Nat.reduceDiv, Nat.reducePow, Nat.reduceBEq, Int.reduceToNat, Int.reduceLE, Int.reduceLT, Int.reduceEq, Int.reduceAdd, Int.reduceMul, Int.reduceSub, Int.reduceNeg, Int.reduceNe, Tryd.TS, Tryd.EV]
  refine sunrollK [1, 2, 3] Tryd.hT ?_; simp -dsimp -implicitDefEqProofs (disch := omega) only [↓reduceIte, ↓gA, gB, refs, den, hasTy, Ty.cmp, Ty.depth, reduceCtorEq, Nat.reduceAdd, Nat.reduceSub, Nat.reduceMul, Nat.reduceEqDiff, Nat.reduceLT, Nat.reduceLeDiff, Nat.reduceMod, Nat.reduceDiv, Nat.reducePow, Nat.reduceBEq, Int.reduceToNat, Int.reduceLE, Int.reduceLT, Int.reduceEq, Int.reduceAdd, Int.reduceMul, Int.reduceSub, Int.reduceNeg, Int.reduceNe, Tryd.TS, Tryd.EV]
  refine HIf_ndec (a := ()) (b := ()) (fun zc => ?_) (fun zc => ?_)
  · simp -dsimp -implicitDefEqProofs (disch := omega) only [↓reduceIte, ↓gA, gB, refs, den, hasTy, Ty.cmp, Ty.depth, reduceCtorEq, Nat.reduceAdd, Nat.reduceSub, Nat.reduceMul, Nat.reduceEqDiff, Nat.reduceLT, Nat.reduceLeDiff, Nat.reduceMod, Nat.reduceDiv, Nat.reducePow, Nat.reduceBEq, Int.reduceToNat, Int.reduceLE, Int.reduceLT, Int.reduceEq, Int.reduceAdd, Int.reduceMul, Int.reduceSub, Int.reduceNeg, Int.reduceNe, Tryd.TS, Tryd.EV]
    first | (with_reducible refine HCall_mono (len64 c hc) ?_; rintro rs rfl) | (with_reducible refine HCallF_mono (len64 c hc) (by first | rfl | simp [flatR, RV.flat, RV.isD, Ty.flat]) ?_) | (refine SCall.mono (len64 c hc) ?_; rintro rs rfl)
    have := bl_le (show c < 2 ^ 64 from hc)
    simp -dsimp -implicitDefEqProofs (disch := omega) only [↓reduceIte, ↓gA, gB, refs, den, hasTy, Ty.cmp, Ty.depth, reduceCtorEq, Nat.reduceAdd, Nat.reduceSub, Nat.reduceMul, Nat.reduceEqDiff, Nat.reduceLT, Nat.reduceLeDiff, Nat.reduceMod, Nat.reduceDiv, Nat.reducePow, Nat.reduceBEq, Int.reduceToNat, Int.reduceLE, Int.reduceLT, Int.reduceEq, Int.reduceAdd, Int.reduceMul, Int.reduceSub, Int.reduceNeg, Int.reduceNe, Tryd.TS, Tryd.EV, show IntKind.i64.wrap (128 + ((bl c : Nat) : Int)) = ((128 + bl c : Nat) : Int) by rw [IntWalk.i64_in _ (by omega)]; omega]
    rw [show bl n = 128 + bl c from by rw [show n = (a + 18446744073709551616 * b) + 2 ^ 128 * c by omega]; exact bl_top (by omega) (by omega)]
  simp -dsimp -implicitDefEqProofs (disch := omega) only [↓reduceIte, ↓gA, gB, refs, den, hasTy, Ty.cmp, Ty.depth, reduceCtorEq, Nat.reduceAdd, Nat.reduceSub, Nat.reduceMul, Nat.reduceEqDiff, Nat.reduceLT, Nat.reduceLeDiff, Nat.reduceMod, Nat.reduceDiv, Nat.reducePow, Nat.reduceBEq, Int.reduceToNat, Int.reduceLE, Int.reduceLT, Int.reduceEq, Int.reduceAdd, Int.reduceMul, Int.reduceSub, Int.reduceNeg, Int.reduceNe, Tryd.TS, Tryd.EV]
  refine sunrollK [1, 2, 3] Tryd.hT ?_; simp -dsimp -implicitDefEqProofs (disch := omega) only [↓reduceIte, ↓gA, gB, refs, den, hasTy, Ty.cmp, Ty.depth, reduceCtorEq, Nat.reduceAdd, Nat.reduceSub, Nat.reduceMul, Nat.reduceEqDiff, Nat.reduceLT, Nat.reduceLeDiff, Nat.reduceMod, Nat.reduceDiv, Nat.reducePow, Nat.reduceBEq, Int.reduceToNat, Int.reduceLE, Int.reduceLT, Int.reduceEq, Int.reduceAdd, Int.reduceMul, Int.reduceSub, Int.reduceNeg, Int.reduceNe, Tryd.TS, Tryd.EV]
  refine HIf_ndec (a := ()) (b := ()) (fun zb => ?_) (fun zb => ?_)
  · simp -dsimp -implicitDefEqProofs (disch := omega) only [↓reduceIte, ↓gA, gB, refs, den, hasTy, Ty.cmp, Ty.depth, reduceCtorEq, Nat.reduceAdd, Nat.reduceSub, Nat.reduceMul, Nat.reduceEqDiff, Nat.reduceLT, Nat.reduceLeDiff, Nat.reduceMod, Nat.reduceDiv, Nat.reducePow, Nat.reduceBEq, Int.reduceToNat, Int.reduceLE, Int.reduceLT, Int.reduceEq, Int.reduceAdd, Int.reduceMul, Int.reduceSub, Int.reduceNeg, Int.reduceNe, Tryd.TS, Tryd.EV]
    first | (with_reducible refine HCall_mono (len64 b hb) ?_; rintro rs rfl) | (with_reducible refine HCallF_mono (len64 b hb) (by first | rfl | simp [flatR, RV.flat, RV.isD, Ty.flat]) ?_) | (refine SCall.mono (len64 b hb) ?_; rintro rs rfl)
    have := bl_le (show b < 2 ^ 64 from hb)
    simp -dsimp -implicitDefEqProofs (disch := omega) only [↓reduceIte, ↓gA, gB, refs, den, hasTy, Ty.cmp, Ty.depth, reduceCtorEq, Nat.reduceAdd, Nat.reduceSub, Nat.reduceMul, Nat.reduceEqDiff, Nat.reduceLT, Nat.reduceLeDiff, Nat.reduceMod, Nat.reduceDiv, Nat.reducePow, Nat.reduceBEq, Int.reduceToNat, Int.reduceLE, Int.reduceLT, Int.reduceEq, Int.reduceAdd, Int.reduceMul, Int.reduceSub, Int.reduceNeg, Int.reduceNe, Tryd.TS, Tryd.EV, show IntKind.i64.wrap (64 + ((bl b : Nat) : Int)) = ((64 + bl b : Nat) : Int) by rw [IntWalk.i64_in _ (by omega)]; omega]
    rw [show bl n = 64 + bl b from by rw [show n = a + 2 ^ 64 * b by omega]; exact bl_top (by omega) (by omega)]
  simp -dsimp -implicitDefEqProofs (disch := omega) only [↓reduceIte, ↓gA, gB, refs, den, hasTy, Ty.cmp, Ty.depth, reduceCtorEq, Nat.reduceAdd, Nat.reduceSub, Nat.reduceMul, Nat.reduceEqDiff, Nat.reduceLT, Nat.reduceLeDiff, Nat.reduceMod, Nat.reduceDiv, Nat.reducePow, Nat.reduceBEq, Int.reduceToNat, Int.reduceLE, Int.reduceLT, Int.reduceEq, Int.reduceAdd, Int.reduceMul, Int.reduceSub, Int.reduceNeg, Int.reduceNe, Tryd.TS, Tryd.EV]
  refine sunrollK [1, 2, 3] Tryd.hT ?_; simp -dsimp -implicitDefEqProofs (disch := omega) only [↓reduceIte, ↓gA, gB, refs, den, hasTy, Ty.cmp, Ty.depth, reduceCtorEq, Nat.reduceAdd, Nat.reduceSub, Nat.reduceMul, Nat.reduceEqDiff, Nat.reduceLT, Nat.reduceLeDiff, Nat.reduceMod, Nat.reduceDiv, Nat.reducePow, Nat.reduceBEq, Int.reduceToNat, Int.reduceLE, Int.reduceLT, Int.reduceEq, Int.reduceAdd, Int.reduceMul, Int.reduceSub, Int.reduceNeg, Int.reduceNe, Tryd.TS, Tryd.EV]
  refine HIf_ndec (a := ()) (b := ()) (fun za => ?_) (fun za => ?_)
  · simp -dsimp -implicitDefEqProofs (disch := omega) only [↓reduceIte, ↓gA, gB, refs, den, hasTy, Ty.cmp, Ty.depth, reduceCtorEq, Nat.reduceAdd, Nat.reduceSub, Nat.reduceMul, Nat.reduceEqDiff, Nat.reduceLT, Nat.reduceLeDiff, Nat.reduceMod, Nat.reduceDiv, Nat.reducePow, Nat.reduceBEq, Int.reduceToNat, Int.reduceLE, Int.reduceLT, Int.reduceEq, Int.reduceAdd, Int.reduceMul, Int.reduceSub, Int.reduceNeg, Int.reduceNe, Tryd.TS, Tryd.EV]
    first | (with_reducible refine HCall_mono (len64 a ha) ?_; rintro rs rfl) | (with_reducible refine HCallF_mono (len64 a ha) (by first | rfl | simp [flatR, RV.flat, RV.isD, Ty.flat]) ?_) | (refine SCall.mono (len64 a ha) ?_; rintro rs rfl)
    have := bl_le (show a < 2 ^ 64 from ha)
    simp -dsimp -implicitDefEqProofs (disch := omega) only [↓reduceIte, ↓gA, gB, refs, den, hasTy, Ty.cmp, Ty.depth, reduceCtorEq, Nat.reduceAdd, Nat.reduceSub, Nat.reduceMul, Nat.reduceEqDiff, Nat.reduceLT, Nat.reduceLeDiff, Nat.reduceMod, Nat.reduceDiv, Nat.reducePow, Nat.reduceBEq, Int.reduceToNat, Int.reduceLE, Int.reduceLT, Int.reduceEq, Int.reduceAdd, Int.reduceMul, Int.reduceSub, Int.reduceNeg, Int.reduceNe, Tryd.TS, Tryd.EV, show IntKind.i64.wrap (0 + ((bl a : Nat) : Int)) = ((0 + bl a : Nat) : Int) by rw [IntWalk.i64_in _ (by omega)]; omega]
    rw [show n = a by omega]
  simp -dsimp -implicitDefEqProofs (disch := omega) only [↓reduceIte, ↓gA, gB, refs, den, hasTy, Ty.cmp, Ty.depth, reduceCtorEq, Nat.reduceAdd, Nat.reduceSub, Nat.reduceMul, Nat.reduceEqDiff, Nat.reduceLT, Nat.reduceLeDiff, Nat.reduceMod, Nat.reduceDiv, Nat.reducePow, Nat.reduceBEq, Int.reduceToNat, Int.reduceLE, Int.reduceLT, Int.reduceEq, Int.reduceAdd, Int.reduceMul, Int.reduceSub, Int.reduceNeg, Int.reduceNe, Tryd.TS, Tryd.EV]
  refine sunrollK [1, 2, 3] Tryd.hT ?_; simp -dsimp -implicitDefEqProofs (disch := omega) only [↓reduceIte, ↓gA, gB, refs, den, hasTy, Ty.cmp, Ty.depth, reduceCtorEq, Nat.reduceAdd, Nat.reduceSub, Nat.reduceMul, Nat.reduceEqDiff, Nat.reduceLT, Nat.reduceLeDiff, Nat.reduceMod, Nat.reduceDiv, Nat.reducePow, Nat.reduceBEq, Int.reduceToNat, Int.reduceLE, Int.reduceLT, Int.reduceEq, Int.reduceAdd, Int.reduceMul, Int.reduceSub, Int.reduceNeg, Int.reduceNe, Tryd.TS, Tryd.EV]
  rw [show n = 0 by omega]
  rfl

set_option maxHeartbeats 2000000 in
theorem wdiv (hi lo b : Nat) (hhi : hi < b) (hlo : lo < 115792089237316195423570985008687907853269984665640564039457584007913129639936) (hb : b < 115792089237316195423570985008687907853269984665640564039457584007913129639936) : SCall Tryd.prog 107 [(.arr 4 (.int .u64), u256 hi), (.arr 4 (.int .u64), u256 lo), (.arr 4 (.int .u64), u256 b)]
    (fun rs => rs = [.d (.arr 4 (.int .u64)) (u256 ((hi * 115792089237316195423570985008687907853269984665640564039457584007913129639936 + lo) / b)), .d (.arr 4 (.int .u64)) (u256 ((hi * 115792089237316195423570985008687907853269984665640564039457584007913129639936 + lo) % b)), .d .bool (.b true)]) := by
  refine scall_intro (n := 85) (rl := [.cell 6 45, .cell 7 45, .tmp 8]) (us := [45, 45, 4]) Tryd.hT Tryd.func107 rfl rfl rfl rfl rfl (Nat.le_of_ble_eq_true rfl) ?_
  intro w0 hL0
  simp -dsimp -implicitDefEqProofs (disch := omega) only [↓reduceIte, ↓gA, gB, refs, den, hasTy, Ty.cmp, Ty.depth, reduceCtorEq, Nat.reduceAdd, Nat.reduceSub, Nat.reduceMul, Nat.reduceEqDiff, Nat.reduceLT, Nat.reduceLeDiff, Nat.reduceMod, Nat.reduceDiv, Nat.reducePow, Nat.reduceBEq, Int.reduceToNat, Int.reduceLE, Int.reduceLT, Int.reduceEq, Int.reduceAdd, Int.reduceMul, Int.reduceSub, Int.reduceNeg, Int.reduceNe, Tryd.TS, Tryd.EV, rep4]
  first | (with_reducible refine HCall_mono (wcmp hi b (by omega) (by omega)) ?_; rintro rs rfl) | (with_reducible refine HCallF_mono (wcmp hi b (by omega) (by omega)) (by first | rfl | simp [flatR, RV.flat, RV.isD, Ty.flat]) ?_) | (refine SCall.mono (wcmp hi b (by omega) (by omega)) ?_; rintro rs rfl)
  rw [if_pos hhi]
  simp -dsimp -implicitDefEqProofs (disch := omega) only [↓reduceIte, ↓gA, gB, refs, den, hasTy, Ty.cmp, Ty.depth, reduceCtorEq, Nat.reduceAdd, Nat.reduceSub, Nat.reduceMul, Nat.reduceEqDiff, Nat.reduceLT, Nat.reduceLeDiff, Nat.reduceMod, Nat.reduceDiv, Nat.reducePow, Nat.reduceBEq, Int.reduceToNat, Int.reduceLE, Int.reduceLT, Int.reduceEq, Int.reduceAdd, Int.reduceMul, Int.reduceSub, Int.reduceNeg, Int.reduceNe, Tryd.TS, Tryd.EV, rep4, u256_zero, u256_inj (show hi < 115792089237316195423570985008687907853269984665640564039457584007913129639936 by omega) (show 0 < 115792089237316195423570985008687907853269984665640564039457584007913129639936 by omega)]
  refine HIf_dec (a := ()) (b := ()) (fun hz => ?_) (fun hz => ?_)
  · simp -dsimp -implicitDefEqProofs (disch := omega) only [↓reduceIte, ↓gA, gB, refs, den, hasTy, Ty.cmp, Ty.depth, reduceCtorEq, Nat.reduceAdd, Nat.reduceSub, Nat.reduceMul, Nat.reduceEqDiff, Nat.reduceLT, Nat.reduceLeDiff, Nat.reduceMod, Nat.reduceDiv, Nat.reducePow, Nat.reduceBEq, Int.reduceToNat, Int.reduceLE, Int.reduceLT, Int.reduceEq, Int.reduceAdd, Int.reduceMul, Int.reduceSub, Int.reduceNeg, Int.reduceNe, Tryd.TS, Tryd.EV]
    first | (with_reducible refine HCall_mono (wlen lo hlo) ?_; rintro rs rfl) | (with_reducible refine HCallF_mono (wlen lo hlo) (by first | rfl | simp [flatR, RV.flat, RV.isD, Ty.flat]) ?_) | (refine SCall.mono (wlen lo hlo) ?_; rintro rs rfl)
    have hbl := bl_le (show lo < 2 ^ 256 from hlo)
    have hdiv : lo / 2 ^ bl lo = 0 := Nat.div_eq_of_lt bl_lt
    simp -dsimp -implicitDefEqProofs (disch := omega) only [↓reduceIte, ↓gA, gB, refs, den, hasTy, Ty.cmp, Ty.depth, reduceCtorEq, Nat.reduceAdd, Nat.reduceSub, Nat.reduceMul, Nat.reduceEqDiff, Nat.reduceLT, Nat.reduceLeDiff, Nat.reduceMod, Nat.reduceDiv, Nat.reducePow, Nat.reduceBEq, Int.reduceToNat, Int.reduceLE, Int.reduceLT, Int.reduceEq, Int.reduceAdd, Int.reduceMul, Int.reduceSub, Int.reduceNeg, Int.reduceNe, Tryd.TS, Tryd.EV]
    refine sloop Tryd.hT (α := Nat × Nat × Nat) (fun x => ⟨85, [(9, .v (.d (.int .i64) (.n ((x.1 : Int) - 1)))), (3, .v (.ptr 0 [])), (4, .v (.ptr 1 [])), (5, .v (.ptr 2 [])), (6, .v (.ptr 3 [])), (7, .v (.ptr 4 []))], [(0, ⟨.arr 4 (.int .u64), .d (.arr 4 (.int .u64)) (u256 hi)⟩), (1, ⟨.arr 4 (.int .u64), .d (.arr 4 (.int .u64)) (u256 lo)⟩), (2, ⟨.arr 4 (.int .u64), .d (.arr 4 (.int .u64)) (u256 b)⟩), (3, ⟨.arr 4 (.int .u64), .d (.arr 4 (.int .u64)) (u256 (2 ^ x.1 * x.2.1))⟩), (4, ⟨.arr 4 (.int .u64), .d (.arr 4 (.int .u64)) (u256 x.2.2)⟩)], 5⟩) (fun x => DivI hi lo b x.1 x.2.1 x.2.2) (fun x => x.1) (bl lo, 0, hi) ?_ ⟨hbl, by simp [hdiv, hz], hhi⟩ ?_
    · refine sub_ren w0 hL0 [(0, 0), (1, 1), (2, 2), (3, 3), (4, 4)] rfl rfl (by simp [keysLt]) rfl ?_ ?_
      · simp [renTm, Go.SE.look, renTV, renSV]
      · simp [renOb, Go.SE.look, renSV, u256_zero]
    rintro ⟨i, Q, r⟩ hI
    simp only at hI
    have hr := hI.lt
    have hq := hI.q_lt hhi hlo
    have hile := hI.le
    simp -dsimp -implicitDefEqProofs (disch := omega) only [↓reduceIte, ↓gA, gB, refs, den, hasTy, Ty.cmp, Ty.depth, reduceCtorEq, Nat.reduceAdd, Nat.reduceSub, Nat.reduceMul, Nat.reduceEqDiff, Nat.reduceLT, Nat.reduceLeDiff, Nat.reduceMod, Nat.reduceDiv, Nat.reducePow, Nat.reduceBEq, Int.reduceToNat, Int.reduceLE, Int.reduceLT, Int.reduceEq, Int.reduceAdd, Int.reduceMul, Int.reduceSub, Int.reduceNeg, Int.reduceNe, Tryd.TS, Tryd.EV]
    refine HIf_dec (a := ()) (b := ()) (fun h => ?_) (fun h => ?_)
    · obtain ⟨k, rfl⟩ : ∃ k, i = k + 1 := ⟨i - 1, by omega⟩
      rw [show (((k + 1 : Nat) : Int) - 1) = (k : Int) by omega]
      have hk4 : k / 64 < 4 := by omega
      have hclear : 2 ^ (k + 1) * Q / 2 ^ k % 2 = 0 := by
        rw [Nat.pow_succ, Nat.mul_assoc, Nat.mul_div_cancel_left _ (Nat.two_pow_pos k)]; omega
      have hset := u256_set hq (show k < 256 by omega) hclear
      have hqe : 2 ^ (k + 1) * Q + 2 ^ k = 2 ^ k * (2 * Q + 1) := by rw [Nat.mul_add, Nat.mul_one, Nat.pow_succ, Nat.mul_assoc]
      have hqe2 : 2 ^ (k + 1) * Q = 2 ^ k * (2 * Q) := by rw [Nat.pow_succ, Nat.mul_assoc]
      have hbit2 : lo / 2 ^ k % 2 < 2 := Nat.mod_lt _ (by omega)
      simp -dsimp -implicitDefEqProofs (disch := omega) only [↓reduceIte, ↓gA, gB, refs, den, hasTy, Ty.cmp, Ty.depth, reduceCtorEq, Nat.reduceAdd, Nat.reduceSub, Nat.reduceMul, Nat.reduceEqDiff, Nat.reduceLT, Nat.reduceLeDiff, Nat.reduceMod, Nat.reduceDiv, Nat.reducePow, Nat.reduceBEq, Int.reduceToNat, Int.reduceLE, Int.reduceLT, Int.reduceEq, Int.reduceAdd, Int.reduceMul, Int.reduceSub, Int.reduceNeg, Int.reduceNe, Tryd.TS, Tryd.EV, u256_at3, u256_list, sr63]
      first | (with_reducible refine HCall_mono (wshl1 r (by omega)) ?_; rintro rs rfl) | (with_reducible refine HCallF_mono (wshl1 r (by omega)) (by first | rfl | simp [flatR, RV.flat, RV.isD, Ty.flat]) ?_) | (refine SCall.mono (wshl1 r (by omega)) ?_; rintro rs rfl)
      simp -dsimp -implicitDefEqProofs (disch := omega) only [↓reduceIte, ↓gA, gB, refs, den, hasTy, Ty.cmp, Ty.depth, reduceCtorEq, Nat.reduceAdd, Nat.reduceSub, Nat.reduceMul, Nat.reduceEqDiff, Nat.reduceLT, Nat.reduceLeDiff, Nat.reduceMod, Nat.reduceDiv, Nat.reducePow, Nat.reduceBEq, Int.reduceToNat, Int.reduceLE, Int.reduceLT, Int.reduceEq, Int.reduceAdd, Int.reduceMul, Int.reduceSub, Int.reduceNeg, Int.reduceNe, Tryd.TS, Tryd.EV]
      refine sdraw (id := 11) Tryd.hT (by kernel_rfl) [12] [] [0, 1, 2, 3, 4, 5, 6, 7, 8, 9, 10, 11, 12] (by kernel_rfl) (by kernel_rfl) (by kernel_rfl) ?_; simp only [gK, ↓reduceIte, Nat.reduceEqDiff]
      simp -dsimp -implicitDefEqProofs (disch := omega) only [↓reduceIte, ↓gA, gB, refs, den, hasTy, Ty.cmp, Ty.depth, reduceCtorEq, Nat.reduceAdd, Nat.reduceSub, Nat.reduceMul, Nat.reduceEqDiff, Nat.reduceLT, Nat.reduceLeDiff, Nat.reduceMod, Nat.reduceDiv, Nat.reducePow, Nat.reduceBEq, Int.reduceToNat, Int.reduceLE, Int.reduceLT, Int.reduceEq, Int.reduceAdd, Int.reduceMul, Int.reduceSub, Int.reduceNeg, Int.reduceNe, Tryd.TS, Tryd.EV, td64, tm64, u256_at0, u256_at _ hk4, u256_list, shrN (show k % 64 ≤ 64 by omega), and_one (limb_lt _ _ _), limb_bit]
      repeat (refine And.intro (by omega) ?_)
      rw [u256_or0 (n := 2 * r % 115792089237316195423570985008687907853269984665640564039457584007913129639936) (Nat.mod_lt _ (by omega)) (by omega) hbit2, show 2 * r % 115792089237316195423570985008687907853269984665640564039457584007913129639936 + lo / 2 ^ k % 2 = (2 * r + lo / 2 ^ k % 2) % 115792089237316195423570985008687907853269984665640564039457584007913129639936 by omega]
      have hVM : (2 * r + lo / 2 ^ k % 2) % 115792089237316195423570985008687907853269984665640564039457584007913129639936 < 115792089237316195423570985008687907853269984665640564039457584007913129639936 := Nat.mod_lt _ (by omega)
      generalize hV : (2 * r + lo / 2 ^ k % 2) % 115792089237316195423570985008687907853269984665640564039457584007913129639936 = V at hVM
      generalize htop : r / 6277101735386680763835789423207666416102355444464034512896 % 18446744073709551616 / 9223372036854775808 = top
      refine sloop Tryd.hT (α := Nat) (fun j => ⟨85, [(11, .v (.d (.int .i64) (.n ((j : Int) - 1)))), (10, .v (.d (.int .u64) (.n top))), (9, .v (.d (.int .i64) (.n k))), (3, .v (.ptr 0 [])), (4, .v (.ptr 1 [])), (5, .v (.ptr 2 [])), (6, .v (.ptr 3 [])), (7, .v (.ptr 4 []))], [(0, ⟨.arr 4 (.int .u64), .d (.arr 4 (.int .u64)) (u256 hi)⟩), (1, ⟨.arr 4 (.int .u64), .d (.arr 4 (.int .u64)) (u256 lo)⟩), (2, ⟨.arr 4 (.int .u64), .d (.arr 4 (.int .u64)) (u256 b)⟩), (3, ⟨.arr 4 (.int .u64), .d (.arr 4 (.int .u64)) (u256 (2 ^ (k + 1) * Q))⟩), (4, ⟨.arr 4 (.int .u64), .d (.arr 4 (.int .u64)) (u256 V)⟩)], 5⟩) (fun j => j ≤ 4 ∧ (top = 0 → V / 2 ^ (64 * j) = b / 2 ^ (64 * j))) (fun j => j) 4 ?_ ⟨Nat.le_refl _, fun _ => by rw [Nat.div_eq_of_lt (show V < 2 ^ (64 * 4) from hVM), Nat.div_eq_of_lt (show b < 2 ^ (64 * 4) from hb)]⟩ ?_
      · refine sub_ren w0 hL0 [(0, 0), (1, 1), (2, 2), (3, 3), (4, 4)] rfl rfl (by simp [keysLt]) rfl ?_ ?_
        · simp [renTm, Go.SE.look, renTV, renSV]
        · simp [renOb, Go.SE.look, renSV]
      rintro j ⟨hj4, hj⟩
      simp -dsimp -implicitDefEqProofs (disch := omega) only [↓reduceIte, ↓gA, gB, refs, den, hasTy, Ty.cmp, Ty.depth, reduceCtorEq, Nat.reduceAdd, Nat.reduceSub, Nat.reduceMul, Nat.reduceEqDiff, Nat.reduceLT, Nat.reduceLeDiff, Nat.reduceMod, Nat.reduceDiv, Nat.reducePow, Nat.reduceBEq, Int.reduceToNat, Int.reduceLE, Int.reduceLT, Int.reduceEq, Int.reduceAdd, Int.reduceMul, Int.reduceSub, Int.reduceNeg, Int.reduceNe, Tryd.TS, Tryd.EV]
      refine HIf_dec (a := ()) (b := ()) (fun hj0 => ?_) (fun hj0 => ?_)
      · obtain ⟨m, rfl⟩ : ∃ m, j = m + 1 := ⟨j - 1, by omega⟩
        rw [show (((m + 1 : Nat) : Int) - 1) = (m : Int) by omega]
        have hm4 : m < 4 := by omega
        simp -dsimp -implicitDefEqProofs (disch := omega) only [↓reduceIte, ↓gA, gB, refs, den, hasTy, Ty.cmp, Ty.depth, reduceCtorEq, Nat.reduceAdd, Nat.reduceSub, Nat.reduceMul, Nat.reduceEqDiff, Nat.reduceLT, Nat.reduceLeDiff, Nat.reduceMod, Nat.reduceDiv, Nat.reducePow, Nat.reduceBEq, Int.reduceToNat, Int.reduceLE, Int.reduceLT, Int.reduceEq, Int.reduceAdd, Int.reduceMul, Int.reduceSub, Int.reduceNeg, Int.reduceNe, Tryd.TS, Tryd.EV]
        refine HIf_dec (a := ()) (b := ()) (fun ht => ?_) (fun ht => ?_)
        · have hj := hj (by omega)
          simp -dsimp -implicitDefEqProofs (disch := omega) only [↓reduceIte, ↓gA, gB, refs, den, hasTy, Ty.cmp, Ty.depth, reduceCtorEq, Nat.reduceAdd, Nat.reduceSub, Nat.reduceMul, Nat.reduceEqDiff, Nat.reduceLT, Nat.reduceLeDiff, Nat.reduceMod, Nat.reduceDiv, Nat.reducePow, Nat.reduceBEq, Int.reduceToNat, Int.reduceLE, Int.reduceLT, Int.reduceEq, Int.reduceAdd, Int.reduceMul, Int.reduceSub, Int.reduceNeg, Int.reduceNe, Tryd.TS, Tryd.EV]
          refine sdraw (id := 15) Tryd.hT (by kernel_rfl) [] [] [0, 1, 2, 3, 4, 5, 6] (by kernel_rfl) (by kernel_rfl) (by kernel_rfl) ?_; simp only [gK, ↓reduceIte, Nat.reduceEqDiff]
          simp -dsimp -implicitDefEqProofs (disch := omega) only [↓reduceIte, ↓gA, gB, refs, den, hasTy, Ty.cmp, Ty.depth, reduceCtorEq, Nat.reduceAdd, Nat.reduceSub, Nat.reduceMul, Nat.reduceEqDiff, Nat.reduceLT, Nat.reduceLeDiff, Nat.reduceMod, Nat.reduceDiv, Nat.reducePow, Nat.reduceBEq, Int.reduceToNat, Int.reduceLE, Int.reduceLT, Int.reduceEq, Int.reduceAdd, Int.reduceMul, Int.reduceSub, Int.reduceNeg, Int.reduceNe, Tryd.TS, Tryd.EV, u256_at _ hm4, u256_list]
          repeat (refine And.intro (by omega) ?_)
          refine HIf_dec (a := ()) (b := ()) (fun hl => ?_) (fun hl => ?_)
          · have hlt := limb_less hj (by omega)
            simp -dsimp -implicitDefEqProofs (disch := omega) only [↓reduceIte, ↓gA, gB, refs, den, hasTy, Ty.cmp, Ty.depth, reduceCtorEq, Nat.reduceAdd, Nat.reduceSub, Nat.reduceMul, Nat.reduceEqDiff, Nat.reduceLT, Nat.reduceLeDiff, Nat.reduceMod, Nat.reduceDiv, Nat.reducePow, Nat.reduceBEq, Int.reduceToNat, Int.reduceLE, Int.reduceLT, Int.reduceEq, Int.reduceAdd, Int.reduceMul, Int.reduceSub, Int.reduceNeg, Int.reduceNe, Tryd.TS, Tryd.EV]
            refine ⟨(k, 2 * Q, 2 * r + lo / 2 ^ k % 2), hI.less (by omega), Nat.lt_succ_self k, ?_⟩
            refine sub_ren w0 hL0 [(0, 0), (1, 1), (2, 2), (3, 3), (4, 4)] rfl rfl (by simp [keysLt]) rfl ?_ ?_
            · simp [renTm, Go.SE.look, renTV, renSV]
            · simp [renOb, Go.SE.look, renSV, hqe2]; congr 1; omega
          · simp -dsimp -implicitDefEqProofs (disch := omega) only [↓reduceIte, ↓gA, gB, refs, den, hasTy, Ty.cmp, Ty.depth, reduceCtorEq, Nat.reduceAdd, Nat.reduceSub, Nat.reduceMul, Nat.reduceEqDiff, Nat.reduceLT, Nat.reduceLeDiff, Nat.reduceMod, Nat.reduceDiv, Nat.reducePow, Nat.reduceBEq, Int.reduceToNat, Int.reduceLE, Int.reduceLT, Int.reduceEq, Int.reduceAdd, Int.reduceMul, Int.reduceSub, Int.reduceNeg, Int.reduceNe, Tryd.TS, Tryd.EV]
            refine sdraw (id := 16) Tryd.hT (by kernel_rfl) [] [] [0, 1, 2, 3, 4, 5, 6] (by kernel_rfl) (by kernel_rfl) (by kernel_rfl) ?_; simp only [gK, ↓reduceIte, Nat.reduceEqDiff]
            simp -dsimp -implicitDefEqProofs (disch := omega) only [↓reduceIte, ↓gA, gB, refs, den, hasTy, Ty.cmp, Ty.depth, reduceCtorEq, Nat.reduceAdd, Nat.reduceSub, Nat.reduceMul, Nat.reduceEqDiff, Nat.reduceLT, Nat.reduceLeDiff, Nat.reduceMod, Nat.reduceDiv, Nat.reducePow, Nat.reduceBEq, Int.reduceToNat, Int.reduceLE, Int.reduceLT, Int.reduceEq, Int.reduceAdd, Int.reduceMul, Int.reduceSub, Int.reduceNeg, Int.reduceNe, Tryd.TS, Tryd.EV, u256_at _ hm4, u256_list]
            repeat (refine And.intro (by omega) ?_)
            refine HIf_dec (a := ()) (b := ()) (fun hg => ?_) (fun hg => ?_)
            · have hgt := limb_less hj.symm (by omega)
              have hge : b ≤ 2 * r + lo / 2 ^ k % 2 := by omega
              subst hV
              simp -dsimp -implicitDefEqProofs (disch := omega) only [↓reduceIte, ↓gA, gB, refs, den, hasTy, Ty.cmp, Ty.depth, reduceCtorEq, Nat.reduceAdd, Nat.reduceSub, Nat.reduceMul, Nat.reduceEqDiff, Nat.reduceLT, Nat.reduceLeDiff, Nat.reduceMod, Nat.reduceDiv, Nat.reducePow, Nat.reduceBEq, Int.reduceToNat, Int.reduceLE, Int.reduceLT, Int.reduceEq, Int.reduceAdd, Int.reduceMul, Int.reduceSub, Int.reduceNeg, Int.reduceNe, Tryd.TS, Tryd.EV]
              first | (with_reducible refine HCall_mono (wsub ((2 * r + lo / 2 ^ k % 2) % 115792089237316195423570985008687907853269984665640564039457584007913129639936) b (Nat.mod_lt _ (by omega)) hb) ?_; rintro rs rfl) | (with_reducible refine HCallF_mono (wsub ((2 * r + lo / 2 ^ k % 2) % 115792089237316195423570985008687907853269984665640564039457584007913129639936) b (Nat.mod_lt _ (by omega)) hb) (by first | rfl | simp [flatR, RV.flat, RV.isD, Ty.flat]) ?_) | (refine SCall.mono (wsub ((2 * r + lo / 2 ^ k % 2) % 115792089237316195423570985008687907853269984665640564039457584007913129639936) b (Nat.mod_lt _ (by omega)) hb) ?_; rintro rs rfl)
              rw [show ((2 * r + lo / 2 ^ k % 2) % 115792089237316195423570985008687907853269984665640564039457584007913129639936 + 115792089237316195423570985008687907853269984665640564039457584007913129639936 - b) % 115792089237316195423570985008687907853269984665640564039457584007913129639936 = 2 * r + lo / 2 ^ k % 2 - b by omega]
              simp -dsimp -implicitDefEqProofs (disch := omega) only [↓reduceIte, ↓gA, gB, refs, den, hasTy, Ty.cmp, Ty.depth, reduceCtorEq, Nat.reduceAdd, Nat.reduceSub, Nat.reduceMul, Nat.reduceEqDiff, Nat.reduceLT, Nat.reduceLeDiff, Nat.reduceMod, Nat.reduceDiv, Nat.reducePow, Nat.reduceBEq, Int.reduceToNat, Int.reduceLE, Int.reduceLT, Int.reduceEq, Int.reduceAdd, Int.reduceMul, Int.reduceSub, Int.reduceNeg, Int.reduceNe, Tryd.TS, Tryd.EV]
              refine sdraw (id := 18) Tryd.hT (by kernel_rfl) [9] [] [0, 1, 2, 3, 4, 5, 6, 7, 8, 9] (by kernel_rfl) (by kernel_rfl) (by kernel_rfl) ?_; simp only [gK, ↓reduceIte, Nat.reduceEqDiff]
              simp -dsimp -implicitDefEqProofs (disch := omega) only [↓reduceIte, ↓gA, gB, refs, den, hasTy, Ty.cmp, Ty.depth, reduceCtorEq, Nat.reduceAdd, Nat.reduceSub, Nat.reduceMul, Nat.reduceEqDiff, Nat.reduceLT, Nat.reduceLeDiff, Nat.reduceMod, Nat.reduceDiv, Nat.reducePow, Nat.reduceBEq, Int.reduceToNat, Int.reduceLE, Int.reduceLT, Int.reduceEq, Int.reduceAdd, Int.reduceMul, Int.reduceSub, Int.reduceNeg, Int.reduceNe, Tryd.TS, Tryd.EV, td64, tm64, u256_at _ hk4, u256_list, hset]
              repeat (refine And.intro (by omega) ?_)
              refine ⟨(k, 2 * Q + 1, 2 * r + lo / 2 ^ k % 2 - b), hI.more hge, Nat.lt_succ_self k, ?_⟩
              refine sub_ren w0 hL0 [(0, 0), (1, 1), (2, 2), (3, 3), (4, 4)] rfl rfl (by simp [keysLt]) rfl ?_ ?_
              · simp [renTm, Go.SE.look, renTV, renSV]
              · simp [renOb, Go.SE.look, renSV, hqe]
            · simp -dsimp -implicitDefEqProofs (disch := omega) only [↓reduceIte, ↓gA, gB, refs, den, hasTy, Ty.cmp, Ty.depth, reduceCtorEq, Nat.reduceAdd, Nat.reduceSub, Nat.reduceMul, Nat.reduceEqDiff, Nat.reduceLT, Nat.reduceLeDiff, Nat.reduceMod, Nat.reduceDiv, Nat.reducePow, Nat.reduceBEq, Int.reduceToNat, Int.reduceLE, Int.reduceLT, Int.reduceEq, Int.reduceAdd, Int.reduceMul, Int.reduceSub, Int.reduceNeg, Int.reduceNe, Tryd.TS, Tryd.EV]
              refine ⟨m, ⟨by omega, fun _ => limb_eq hj (by omega)⟩, Nat.lt_succ_self m, ?_⟩
              refine sub_ren w0 hL0 [(0, 0), (1, 1), (2, 2), (3, 3), (4, 4)] rfl rfl (by simp [keysLt]) rfl ?_ ?_
              · simp [renTm, Go.SE.look, renTV, renSV]
              · simp [renOb, Go.SE.look, renSV]
        · have hge : b ≤ 2 * r + lo / 2 ^ k % 2 := by omega
          subst hV
          simp -dsimp -implicitDefEqProofs (disch := omega) only [↓reduceIte, ↓gA, gB, refs, den, hasTy, Ty.cmp, Ty.depth, reduceCtorEq, Nat.reduceAdd, Nat.reduceSub, Nat.reduceMul, Nat.reduceEqDiff, Nat.reduceLT, Nat.reduceLeDiff, Nat.reduceMod, Nat.reduceDiv, Nat.reducePow, Nat.reduceBEq, Int.reduceToNat, Int.reduceLE, Int.reduceLT, Int.reduceEq, Int.reduceAdd, Int.reduceMul, Int.reduceSub, Int.reduceNeg, Int.reduceNe, Tryd.TS, Tryd.EV]
          first | (with_reducible refine HCall_mono (wsub ((2 * r + lo / 2 ^ k % 2) % 115792089237316195423570985008687907853269984665640564039457584007913129639936) b (Nat.mod_lt _ (by omega)) hb) ?_; rintro rs rfl) | (with_reducible refine HCallF_mono (wsub ((2 * r + lo / 2 ^ k % 2) % 115792089237316195423570985008687907853269984665640564039457584007913129639936) b (Nat.mod_lt _ (by omega)) hb) (by first | rfl | simp [flatR, RV.flat, RV.isD, Ty.flat]) ?_) | (refine SCall.mono (wsub ((2 * r + lo / 2 ^ k % 2) % 115792089237316195423570985008687907853269984665640564039457584007913129639936) b (Nat.mod_lt _ (by omega)) hb) ?_; rintro rs rfl)
          rw [show ((2 * r + lo / 2 ^ k % 2) % 115792089237316195423570985008687907853269984665640564039457584007913129639936 + 115792089237316195423570985008687907853269984665640564039457584007913129639936 - b) % 115792089237316195423570985008687907853269984665640564039457584007913129639936 = 2 * r + lo / 2 ^ k % 2 - b by omega]
          simp -dsimp -implicitDefEqProofs (disch := omega) only [↓reduceIte, ↓gA, gB, refs, den, hasTy, Ty.cmp, Ty.depth, reduceCtorEq, Nat.reduceAdd, Nat.reduceSub, Nat.reduceMul, Nat.reduceEqDiff, Nat.reduceLT, Nat.reduceLeDiff, Nat.reduceMod, Nat.reduceDiv, Nat.reducePow, Nat.reduceBEq, Int.reduceToNat, Int.reduceLE, Int.reduceLT, Int.reduceEq, Int.reduceAdd, Int.reduceMul, Int.reduceSub, Int.reduceNeg, Int.reduceNe, Tryd.TS, Tryd.EV]
          refine sdraw (id := 18) Tryd.hT (by kernel_rfl) [9] [] [0, 1, 2, 3, 4, 5, 6, 7, 8, 9] (by kernel_rfl) (by kernel_rfl) (by kernel_rfl) ?_; simp only [gK, ↓reduceIte, Nat.reduceEqDiff]
          simp -dsimp -implicitDefEqProofs (disch := omega) only [↓reduceIte, ↓gA, gB, refs, den, hasTy, Ty.cmp, Ty.depth, reduceCtorEq, Nat.reduceAdd, Nat.reduceSub, Nat.reduceMul, Nat.reduceEqDiff, Nat.reduceLT, Nat.reduceLeDiff, Nat.reduceMod, Nat.reduceDiv, Nat.reducePow, Nat.reduceBEq, Int.reduceToNat, Int.reduceLE, Int.reduceLT, Int.reduceEq, Int.reduceAdd, Int.reduceMul, Int.reduceSub, Int.reduceNeg, Int.reduceNe, Tryd.TS, Tryd.EV, td64, tm64, u256_at _ hk4, u256_list, hset]
          repeat (refine And.intro (by omega) ?_)
          refine ⟨(k, 2 * Q + 1, 2 * r + lo / 2 ^ k % 2 - b), hI.more hge, Nat.lt_succ_self k, ?_⟩
          refine sub_ren w0 hL0 [(0, 0), (1, 1), (2, 2), (3, 3), (4, 4)] rfl rfl (by simp [keysLt]) rfl ?_ ?_
          · simp [renTm, Go.SE.look, renTV, renSV]
          · simp [renOb, Go.SE.look, renSV, hqe]
      · have hj00 : j = 0 := by omega
        subst hj00
        have hge : b ≤ 2 * r + lo / 2 ^ k % 2 := by
          by_cases ht : top = 0
          · have := hj ht
            simp only [Nat.mul_zero, Nat.pow_zero, Nat.div_one] at this
            omega
          · omega
        subst hV
        simp -dsimp -implicitDefEqProofs (disch := omega) only [↓reduceIte, ↓gA, gB, refs, den, hasTy, Ty.cmp, Ty.depth, reduceCtorEq, Nat.reduceAdd, Nat.reduceSub, Nat.reduceMul, Nat.reduceEqDiff, Nat.reduceLT, Nat.reduceLeDiff, Nat.reduceMod, Nat.reduceDiv, Nat.reducePow, Nat.reduceBEq, Int.reduceToNat, Int.reduceLE, Int.reduceLT, Int.reduceEq, Int.reduceAdd, Int.reduceMul, Int.reduceSub, Int.reduceNeg, Int.reduceNe, Tryd.TS, Tryd.EV]
        first | (with_reducible refine HCall_mono (wsub ((2 * r + lo / 2 ^ k % 2) % 115792089237316195423570985008687907853269984665640564039457584007913129639936) b (Nat.mod_lt _ (by omega)) hb) ?_; rintro rs rfl) | (with_reducible refine HCallF_mono (wsub ((2 * r + lo / 2 ^ k % 2) % 115792089237316195423570985008687907853269984665640564039457584007913129639936) b (Nat.mod_lt _ (by omega)) hb) (by first | rfl | simp [flatR, RV.flat, RV.isD, Ty.flat]) ?_) | (refine SCall.mono (wsub ((2 * r + lo / 2 ^ k % 2) % 115792089237316195423570985008687907853269984665640564039457584007913129639936) b (Nat.mod_lt _ (by omega)) hb) ?_; rintro rs rfl)
        rw [show ((2 * r + lo / 2 ^ k % 2) % 115792089237316195423570985008687907853269984665640564039457584007913129639936 + 115792089237316195423570985008687907853269984665640564039457584007913129639936 - b) % 115792089237316195423570985008687907853269984665640564039457584007913129639936 = 2 * r + lo / 2 ^ k % 2 - b by omega]
        simp -dsimp -implicitDefEqProofs (disch := omega) only [↓reduceIte, ↓gA, gB, refs, den, hasTy, Ty.cmp, Ty.depth, reduceCtorEq, Nat.reduceAdd, Nat.reduceSub, Nat.reduceMul, Nat.reduceEqDiff, Nat.reduceLT, Nat.reduceLeDiff, Nat.reduceMod, Nat.reduceDiv, Nat.reducePow, Nat.reduceBEq, Int.reduceToNat, Int.reduceLE, Int.reduceLT, Int.reduceEq, Int.reduceAdd, Int.reduceMul, Int.reduceSub, Int.reduceNeg, Int.reduceNe, Tryd.TS, Tryd.EV]
        refine sdraw (id := 18) Tryd.hT (by kernel_rfl) [9] [] [0, 1, 2, 3, 4, 5, 6, 7, 8, 9] (by kernel_rfl) (by kernel_rfl) (by kernel_rfl) ?_; simp only [gK, ↓reduceIte, Nat.reduceEqDiff]
        simp -dsimp -implicitDefEqProofs (disch := omega) only [↓reduceIte, ↓gA, gB, refs, den, hasTy, Ty.cmp, Ty.depth, reduceCtorEq, Nat.reduceAdd, Nat.reduceSub, Nat.reduceMul, Nat.reduceEqDiff, Nat.reduceLT, Nat.reduceLeDiff, Nat.reduceMod, Nat.reduceDiv, Nat.reducePow, Nat.reduceBEq, Int.reduceToNat, Int.reduceLE, Int.reduceLT, Int.reduceEq, Int.reduceAdd, Int.reduceMul, Int.reduceSub, Int.reduceNeg, Int.reduceNe, Tryd.TS, Tryd.EV, td64, tm64, u256_at _ hk4, u256_list, hset]
        repeat (refine And.intro (by omega) ?_)
        refine ⟨(k, 2 * Q + 1, 2 * r + lo / 2 ^ k % 2 - b), hI.more hge, Nat.lt_succ_self k, ?_⟩
        refine sub_ren w0 hL0 [(0, 0), (1, 1), (2, 2), (3, 3), (4, 4)] rfl rfl (by simp [keysLt]) rfl ?_ ?_
        · simp [renTm, Go.SE.look, renTV, renSV]
        · simp [renOb, Go.SE.look, renSV, hqe]
    · have : i = 0 := by omega
      subst this
      obtain ⟨rfl, rfl⟩ := hI.done
      simp -dsimp -implicitDefEqProofs (disch := omega) only [↓reduceIte, ↓gA, gB, refs, den, hasTy, Ty.cmp, Ty.depth, reduceCtorEq, Nat.reduceAdd, Nat.reduceSub, Nat.reduceMul, Nat.reduceEqDiff, Nat.reduceLT, Nat.reduceLeDiff, Nat.reduceMod, Nat.reduceDiv, Nat.reducePow, Nat.reduceBEq, Int.reduceToNat, Int.reduceLE, Int.reduceLT, Int.reduceEq, Int.reduceAdd, Int.reduceMul, Int.reduceSub, Int.reduceNeg, Int.reduceNe, Tryd.TS, Tryd.EV]
      refine sdrawT Tryd.hT (by kernel_rfl) [] (.alt 0 (.alt 1 (.alt 2 (.alt 3 (.alt 4 .nil .nil) .nil) .nil) (.alt 2 (.alt 1 (.alt 3 (.alt 4 .nil .nil) .nil) .nil) .nil)) (.alt 1 (.alt 0 (.alt 2 (.alt 3 (.alt 4 .nil .nil) .nil) .nil) .nil) .nil)) (by kernel_rfl) ?_; simp only [tr_alt, tr_nil, tr_nil', pickF, mem1, List.getElem?_toArray, List.getElem?_cons_zero, List.getElem?_cons_succ]
      simp -dsimp -implicitDefEqProofs (disch := omega) only [↓reduceIte, ↓gA, gB, refs, den, hasTy, Ty.cmp, Ty.depth, reduceCtorEq, Nat.reduceAdd, Nat.reduceSub, Nat.reduceMul, Nat.reduceEqDiff, Nat.reduceLT, Nat.reduceLeDiff, Nat.reduceMod, Nat.reduceDiv, Nat.reducePow, Nat.reduceBEq, Int.reduceToNat, Int.reduceLE, Int.reduceLT, Int.reduceEq, Int.reduceAdd, Int.reduceMul, Int.reduceSub, Int.reduceNeg, Int.reduceNe, Tryd.TS, Tryd.EV]
      rw [show 2 ^ 0 * ((hi * 115792089237316195423570985008687907853269984665640564039457584007913129639936 + lo) / b) = (hi * 115792089237316195423570985008687907853269984665640564039457584007913129639936 + lo) / b by omega]
      simp only [and_self]
  · simp -dsimp -implicitDefEqProofs (disch := omega) only [↓reduceIte, ↓gA, gB, refs, den, hasTy, Ty.cmp, Ty.depth, reduceCtorEq, Nat.reduceAdd, Nat.reduceSub, Nat.reduceMul, Nat.reduceEqDiff, Nat.reduceLT, Nat.reduceLeDiff, Nat.reduceMod, Nat.reduceDiv, Nat.reducePow, Nat.reduceBEq, Int.reduceToNat, Int.reduceLE, Int.reduceLT, Int.reduceEq, Int.reduceAdd, Int.reduceMul, Int.reduceSub, Int.reduceNeg, Int.reduceNe, Tryd.TS, Tryd.EV]
    refine sloop Tryd.hT (α := Nat × Nat × Nat) (fun x => ⟨85, [(9, .v (.d (.int .i64) (.n ((x.1 : Int) - 1)))), (3, .v (.ptr 0 [])), (4, .v (.ptr 1 [])), (5, .v (.ptr 2 [])), (6, .v (.ptr 3 [])), (7, .v (.ptr 4 []))], [(0, ⟨.arr 4 (.int .u64), .d (.arr 4 (.int .u64)) (u256 hi)⟩), (1, ⟨.arr 4 (.int .u64), .d (.arr 4 (.int .u64)) (u256 lo)⟩), (2, ⟨.arr 4 (.int .u64), .d (.arr 4 (.int .u64)) (u256 b)⟩), (3, ⟨.arr 4 (.int .u64), .d (.arr 4 (.int .u64)) (u256 (2 ^ x.1 * x.2.1))⟩), (4, ⟨.arr 4 (.int .u64), .d (.arr 4 (.int .u64)) (u256 x.2.2)⟩)], 5⟩) (fun x => DivI hi lo b x.1 x.2.1 x.2.2) (fun x => x.1) (256, 0, hi) ?_ ⟨Nat.le_refl _, by simp only [Nat.sub_self, Nat.pow_zero, Nat.mul_one, Nat.zero_mul, Nat.zero_add]; rw [show (2 : Nat) ^ 256 = 115792089237316195423570985008687907853269984665640564039457584007913129639936 from rfl, Nat.div_eq_of_lt hlo]; rfl, hhi⟩ ?_
    · refine sub_ren w0 hL0 [(0, 0), (1, 1), (2, 2), (3, 3), (4, 4)] rfl rfl (by simp [keysLt]) rfl ?_ ?_
      · simp [renTm, Go.SE.look, renTV, renSV]
      · simp [renOb, Go.SE.look, renSV, u256_zero]
    rintro ⟨i, Q, r⟩ hI
    simp only at hI
    have hr := hI.lt
    have hq := hI.q_lt hhi hlo
    have hile := hI.le
    simp -dsimp -implicitDefEqProofs (disch := omega) only [↓reduceIte, ↓gA, gB, refs, den, hasTy, Ty.cmp, Ty.depth, reduceCtorEq, Nat.reduceAdd, Nat.reduceSub, Nat.reduceMul, Nat.reduceEqDiff, Nat.reduceLT, Nat.reduceLeDiff, Nat.reduceMod, Nat.reduceDiv, Nat.reducePow, Nat.reduceBEq, Int.reduceToNat, Int.reduceLE, Int.reduceLT, Int.reduceEq, Int.reduceAdd, Int.reduceMul, Int.reduceSub, Int.reduceNeg, Int.reduceNe, Tryd.TS, Tryd.EV]
    refine HIf_dec (a := ()) (b := ()) (fun h => ?_) (fun h => ?_)
    · obtain ⟨k, rfl⟩ : ∃ k, i = k + 1 := ⟨i - 1, by omega⟩
      rw [show (((k + 1 : Nat) : Int) - 1) = (k : Int) by omega]
      have hk4 : k / 64 < 4 := by omega
      have hclear : 2 ^ (k + 1) * Q / 2 ^ k % 2 = 0 := by
        rw [Nat.pow_succ, Nat.mul_assoc, Nat.mul_div_cancel_left _ (Nat.two_pow_pos k)]; omega
      have hset := u256_set hq (show k < 256 by omega) hclear
      have hqe : 2 ^ (k + 1) * Q + 2 ^ k = 2 ^ k * (2 * Q + 1) := by rw [Nat.mul_add, Nat.mul_one, Nat.pow_succ, Nat.mul_assoc]
      have hqe2 : 2 ^ (k + 1) * Q = 2 ^ k * (2 * Q) := by rw [Nat.pow_succ, Nat.mul_assoc]
      have hbit2 : lo / 2 ^ k % 2 < 2 := Nat.mod_lt _ (by omega)
      simp -dsimp -implicitDefEqProofs (disch := omega) only [↓reduceIte, ↓gA, gB, refs, den, hasTy, Ty.cmp, Ty.depth, reduceCtorEq, Nat.reduceAdd, Nat.reduceSub, Nat.reduceMul, Nat.reduceEqDiff, Nat.reduceLT, Nat.reduceLeDiff, Nat.reduceMod, Nat.reduceDiv, Nat.reducePow, Nat.reduceBEq, Int.reduceToNat, Int.reduceLE, Int.reduceLT, Int.reduceEq, Int.reduceAdd, Int.reduceMul, Int.reduceSub, Int.reduceNeg, Int.reduceNe, Tryd.TS, Tryd.EV, u256_at3, u256_list, sr63]
      first | (with_reducible refine HCall_mono (wshl1 r (by omega)) ?_; rintro rs rfl) | (with_reducible refine HCallF_mono (wshl1 r (by omega)) (by first | rfl | simp [flatR, RV.flat, RV.isD, Ty.flat]) ?_) | (refine SCall.mono (wshl1 r (by omega)) ?_; rintro rs rfl)
      simp -dsimp -implicitDefEqProofs (disch := omega) only [↓reduceIte, ↓gA, gB, refs, den, hasTy, Ty.cmp, Ty.depth, reduceCtorEq, Nat.reduceAdd, Nat.reduceSub, Nat.reduceMul, Nat.reduceEqDiff, Nat.reduceLT, Nat.reduceLeDiff, Nat.reduceMod, Nat.reduceDiv, Nat.reducePow, Nat.reduceBEq, Int.reduceToNat, Int.reduceLE, Int.reduceLT, Int.reduceEq, Int.reduceAdd, Int.reduceMul, Int.reduceSub, Int.reduceNeg, Int.reduceNe, Tryd.TS, Tryd.EV]
      refine sdraw (id := 11) Tryd.hT (by kernel_rfl) [12] [] [0, 1, 2, 3, 4, 5, 6, 7, 8, 9, 10, 11, 12] (by kernel_rfl) (by kernel_rfl) (by kernel_rfl) ?_; simp only [gK, ↓reduceIte, Nat.reduceEqDiff]
      simp -dsimp -implicitDefEqProofs (disch := omega) only [↓reduceIte, ↓gA, gB, refs, den, hasTy, Ty.cmp, Ty.depth, reduceCtorEq, Nat.reduceAdd, Nat.reduceSub, Nat.reduceMul, Nat.reduceEqDiff, Nat.reduceLT, Nat.reduceLeDiff, Nat.reduceMod, Nat.reduceDiv, Nat.reducePow, Nat.reduceBEq, Int.reduceToNat, Int.reduceLE, Int.reduceLT, Int.reduceEq, Int.reduceAdd, Int.reduceMul, Int.reduceSub, Int.reduceNeg, Int.reduceNe, Tryd.TS, Tryd.EV, td64, tm64, u256_at0, u256_at _ hk4, u256_list, shrN (show k % 64 ≤ 64 by omega), and_one (limb_lt _ _ _), limb_bit]
      repeat (refine And.intro (by omega) ?_)
      rw [u256_or0 (n := 2 * r % 115792089237316195423570985008687907853269984665640564039457584007913129639936) (Nat.mod_lt _ (by omega)) (by omega) hbit2, show 2 * r % 115792089237316195423570985008687907853269984665640564039457584007913129639936 + lo / 2 ^ k % 2 = (2 * r + lo / 2 ^ k % 2) % 115792089237316195423570985008687907853269984665640564039457584007913129639936 by omega]
      have hVM : (2 * r + lo / 2 ^ k % 2) % 115792089237316195423570985008687907853269984665640564039457584007913129639936 < 115792089237316195423570985008687907853269984665640564039457584007913129639936 := Nat.mod_lt _ (by omega)
      generalize hV : (2 * r + lo / 2 ^ k % 2) % 115792089237316195423570985008687907853269984665640564039457584007913129639936 = V at hVM
      generalize htop : r / 6277101735386680763835789423207666416102355444464034512896 % 18446744073709551616 / 9223372036854775808 = top
      refine sloop Tryd.hT (α := Nat) (fun j => ⟨85, [(11, .v (.d (.int .i64) (.n ((j : Int) - 1)))), (10, .v (.d (.int .u64) (.n top))), (9, .v (.d (.int .i64) (.n k))), (3, .v (.ptr 0 [])), (4, .v (.ptr 1 [])), (5, .v (.ptr 2 [])), (6, .v (.ptr 3 [])), (7, .v (.ptr 4 []))], [(0, ⟨.arr 4 (.int .u64), .d (.arr 4 (.int .u64)) (u256 hi)⟩), (1, ⟨.arr 4 (.int .u64), .d (.arr 4 (.int .u64)) (u256 lo)⟩), (2, ⟨.arr 4 (.int .u64), .d (.arr 4 (.int .u64)) (u256 b)⟩), (3, ⟨.arr 4 (.int .u64), .d (.arr 4 (.int .u64)) (u256 (2 ^ (k + 1) * Q))⟩), (4, ⟨.arr 4 (.int .u64), .d (.arr 4 (.int .u64)) (u256 V)⟩)], 5⟩) (fun j => j ≤ 4 ∧ (top = 0 → V / 2 ^ (64 * j) = b / 2 ^ (64 * j))) (fun j => j) 4 ?_ ⟨Nat.le_refl _, fun _ => by rw [Nat.div_eq_of_lt (show V < 2 ^ (64 * 4) from hVM), Nat.div_eq_of_lt (show b < 2 ^ (64 * 4) from hb)]⟩ ?_
      · refine sub_ren w0 hL0 [(0, 0), (1, 1), (2, 2), (3, 3), (4, 4)] rfl rfl (by simp [keysLt]) rfl ?_ ?_
        · simp [renTm, Go.SE.look, renTV, renSV]
        · simp [renOb, Go.SE.look, renSV]
      rintro j ⟨hj4, hj⟩
      simp -dsimp -implicitDefEqProofs (disch := omega) only [↓reduceIte, ↓gA, gB, refs, den, hasTy, Ty.cmp, Ty.depth, reduceCtorEq, Nat.reduceAdd, Nat.reduceSub, Nat.reduceMul, Nat.reduceEqDiff, Nat.reduceLT, Nat.reduceLeDiff, Nat.reduceMod, Nat.reduceDiv, Nat.reducePow, Nat.reduceBEq, Int.reduceToNat, Int.reduceLE, Int.reduceLT, Int.reduceEq, Int.reduceAdd, Int.reduceMul, Int.reduceSub, Int.reduceNeg, Int.reduceNe, Tryd.TS, Tryd.EV]
      refine HIf_dec (a := ()) (b := ()) (fun hj0 => ?_) (fun hj0 => ?_)
      · obtain ⟨m, rfl⟩ : ∃ m, j = m + 1 := ⟨j - 1, by omega⟩
        rw [show (((m + 1 : Nat) : Int) - 1) = (m : Int) by omega]
        have hm4 : m < 4 := by omega
        simp -dsimp -implicitDefEqProofs (disch := omega) only [↓reduceIte, ↓gA, gB, refs, den, hasTy, Ty.cmp, Ty.depth, reduceCtorEq, Nat.reduceAdd, Nat.reduceSub, Nat.reduceMul, Nat.reduceEqDiff, Nat.reduceLT, Nat.reduceLeDiff, Nat.reduceMod, Nat.reduceDiv, Nat.reducePow, Nat.reduceBEq, Int.reduceToNat, Int.reduceLE, Int.reduceLT, Int.reduceEq, Int.reduceAdd, Int.reduceMul, Int.reduceSub, Int.reduceNeg, Int.reduceNe, Tryd.TS, Tryd.EV]
        refine HIf_dec (a := ()) (b := ()) (fun ht => ?_) (fun ht => ?_)
        · have hj := hj (by omega)
          simp -dsimp -implicitDefEqProofs (disch := omega) only [↓reduceIte, ↓gA, gB, refs, den, hasTy, Ty.cmp, Ty.depth, reduceCtorEq, Nat.reduceAdd, Nat.reduceSub, Nat.reduceMul, Nat.reduceEqDiff, Nat.reduceLT, Nat.reduceLeDiff, Nat.reduceMod, Nat.reduceDiv, Nat.reducePow, Nat.reduceBEq, Int.reduceToNat, Int.reduceLE, Int.reduceLT, Int.reduceEq, Int.reduceAdd, Int.reduceMul, Int.reduceSub, Int.reduceNeg, Int.reduceNe, Tryd.TS, Tryd.EV]
          refine sdraw (id := 15) Tryd.hT (by kernel_rfl) [] [] [0, 1, 2, 3, 4, 5, 6] (by kernel_rfl) (by kernel_rfl) (by kernel_rfl) ?_; simp only [gK, ↓reduceIte, Nat.reduceEqDiff]
          simp -dsimp -implicitDefEqProofs (disch := omega) only [↓reduceIte, ↓gA, gB, refs, den, hasTy, Ty.cmp, Ty.depth, reduceCtorEq, Nat.reduceAdd, Nat.reduceSub, Nat.reduceMul, Nat.reduceEqDiff, Nat.reduceLT, Nat.reduceLeDiff, Nat.reduceMod, Nat.reduceDiv, Nat.reducePow, Nat.reduceBEq, Int.reduceToNat, Int.reduceLE, Int.reduceLT, Int.reduceEq, Int.reduceAdd, Int.reduceMul, Int.reduceSub, Int.reduceNeg, Int.reduceNe, Tryd.TS, Tryd.EV, u256_at _ hm4, u256_list]
          repeat (refine And.intro (by omega) ?_)
          refine HIf_dec (a := ()) (b := ()) (fun hl => ?_) (fun hl => ?_)
          · have hlt := limb_less hj (by omega)
            simp -dsimp -implicitDefEqProofs (disch := omega) only [↓reduceIte, ↓gA, gB, refs, den, hasTy, Ty.cmp, Ty.depth, reduceCtorEq, Nat.reduceAdd, Nat.reduceSub, Nat.reduceMul, Nat.reduceEqDiff, Nat.reduceLT, Nat.reduceLeDiff, Nat.reduceMod, Nat.reduceDiv, Nat.reducePow, Nat.reduceBEq, Int.reduceToNat, Int.reduceLE, Int.reduceLT, Int.reduceEq, Int.reduceAdd, Int.reduceMul, Int.reduceSub, Int.reduceNeg, Int.reduceNe, Tryd.TS, Tryd.EV]
            refine ⟨(k, 2 * Q, 2 * r + lo / 2 ^ k % 2), hI.less (by omega), Nat.lt_succ_self k, ?_⟩
            refine sub_ren w0 hL0 [(0, 0), (1, 1), (2, 2), (3, 3), (4, 4)] rfl rfl (by simp [keysLt]) rfl ?_ ?_
            · simp [renTm, Go.SE.look, renTV, renSV]
            · simp [renOb, Go.SE.look, renSV, hqe2]; congr 1; omega
          · simp -dsimp -implicitDefEqProofs (disch := omega) only [↓reduceIte, ↓gA, gB, refs, den, hasTy, Ty.cmp, Ty.depth, reduceCtorEq, Nat.reduceAdd, Nat.reduceSub, Nat.reduceMul, Nat.reduceEqDiff, Nat.reduceLT, Nat.reduceLeDiff, Nat.reduceMod, Nat.reduceDiv, Nat.reducePow, Nat.reduceBEq, Int.reduceToNat, Int.reduceLE, Int.reduceLT, Int.reduceEq, Int.reduceAdd, Int.reduceMul, Int.reduceSub, Int.reduceNeg, Int.reduceNe, Tryd.TS, Tryd.EV]
            refine sdraw (id := 16) Tryd.hT (by kernel_rfl) [] [] [0, 1, 2, 3, 4, 5, 6] (by kernel_rfl) (by kernel_rfl) (by kernel_rfl) ?_; simp only [gK, ↓reduceIte, Nat.reduceEqDiff]
            simp -dsimp -implicitDefEqProofs (disch := omega) only [↓reduceIte, ↓gA, gB, refs, den, hasTy, Ty.cmp, Ty.depth, reduceCtorEq, Nat.reduceAdd, Nat.reduceSub, Nat.reduceMul, Nat.reduceEqDiff, Nat.reduceLT, Nat.reduceLeDiff, Nat.reduceMod, Nat.reduceDiv, Nat.reducePow, Nat.reduceBEq, Int.reduceToNat, Int.reduceLE, Int.reduceLT, Int.reduceEq, Int.reduceAdd, Int.reduceMul, Int.reduceSub, Int.reduceNeg, Int.reduceNe, Tryd.TS, Tryd.EV, u256_at _ hm4, u256_list]
            repeat (refine And.intro (by omega) ?_)
            refine HIf_dec (a := ()) (b := ()) (fun hg => ?_) (fun hg => ?_)
            · have hgt := limb_less hj.symm (by omega)
              have hge : b ≤ 2 * r + lo / 2 ^ k % 2 := by omega
              subst hV
              simp -dsimp -implicitDefEqProofs (disch := omega) only [↓reduceIte, ↓gA, gB, refs, den, hasTy, Ty.cmp, Ty.depth, reduceCtorEq, Nat.reduceAdd, Nat.reduceSub, Nat.reduceMul, Nat.reduceEqDiff, Nat.reduceLT, Nat.reduceLeDiff, Nat.reduceMod, Nat.reduceDiv, Nat.reducePow, Nat.reduceBEq, Int.reduceToNat, Int.reduceLE, Int.reduceLT, Int.reduceEq, Int.reduceAdd, Int.reduceMul, Int.reduceSub, Int.reduceNeg, Int.reduceNe, Tryd.TS, Tryd.EV]
              first | (with_reducible refine HCall_mono (wsub ((2 * r + lo / 2 ^ k % 2) % 115792089237316195423570985008687907853269984665640564039457584007913129639936) b (Nat.mod_lt _ (by omega)) hb) ?_; rintro rs rfl) | (with_reducible refine HCallF_mono (wsub ((2 * r + lo / 2 ^ k % 2) % 115792089237316195423570985008687907853269984665640564039457584007913129639936) b (Nat.mod_lt _ (by omega)) hb) (by first | rfl | simp [flatR, RV.flat, RV.isD, Ty.flat]) ?_) | (refine SCall.mono (wsub ((2 * r + lo / 2 ^ k % 2) % 115792089237316195423570985008687907853269984665640564039457584007913129639936) b (Nat.mod_lt _ (by omega)) hb) ?_; rintro rs rfl)
              rw [show ((2 * r + lo / 2 ^ k % 2) % 115792089237316195423570985008687907853269984665640564039457584007913129639936 + 115792089237316195423570985008687907853269984665640564039457584007913129639936 - b) % 115792089237316195423570985008687907853269984665640564039457584007913129639936 = 2 * r + lo / 2 ^ k % 2 - b by omega]
              simp -dsimp -implicitDefEqProofs (disch := omega) only [↓reduceIte, ↓gA, gB, refs, den, hasTy, Ty.cmp, Ty.depth, reduceCtorEq, Nat.reduceAdd, Nat.reduceSub, Nat.reduceMul, Nat.reduceEqDiff, Nat.reduceLT, Nat.reduceLeDiff, Nat.reduceMod, Nat.reduceDiv, Nat.reducePow, Nat.reduceBEq, Int.reduceToNat, Int.reduceLE, Int.reduceLT, Int.reduceEq, Int.reduceAdd, Int.reduceMul, Int.reduceSub, Int.reduceNeg, Int.reduceNe, Tryd.TS, Tryd.EV]
              refine sdraw (id := 18) Tryd.hT (by kernel_rfl) [9] [] [0, 1, 2, 3, 4, 5, 6, 7, 8, 9] (by kernel_rfl) (by kernel_rfl) (by kernel_rfl) ?_; simp only [gK, ↓reduceIte, Nat.reduceEqDiff]
              simp -dsimp -implicitDefEqProofs (disch := omega) only [↓reduceIte, ↓gA, gB, refs, den, hasTy, Ty.cmp, Ty.depth, reduceCtorEq, Nat.reduceAdd, Nat.reduceSub, Nat.reduceMul, Nat.reduceEqDiff, Nat.reduceLT, Nat.reduceLeDiff, Nat.reduceMod, Nat.reduceDiv, Nat.reducePow, Nat.reduceBEq, Int.reduceToNat, Int.reduceLE, Int.reduceLT, Int.reduceEq, Int.reduceAdd, Int.reduceMul, Int.reduceSub, Int.reduceNeg, Int.reduceNe, Tryd.TS, Tryd.EV, td64, tm64, u256_at _ hk4, u256_list, hset]
              repeat (refine And.intro (by omega) ?_)
              refine ⟨(k, 2 * Q + 1, 2 * r + lo / 2 ^ k % 2 - b), hI.more hge, Nat.lt_succ_self k, ?_⟩
              refine sub_ren w0 hL0 [(0, 0), (1, 1), (2, 2), (3, 3), (4, 4)] rfl rfl (by simp [keysLt]) rfl ?_ ?_
              · simp [renTm, Go.SE.look, renTV, renSV]
              · simp [renOb, Go.SE.look, renSV, hqe]
            · simp -dsimp -implicitDefEqProofs (disch := omega) only [↓reduceIte, ↓gA, gB, refs, den, hasTy, Ty.cmp, Ty.depth, reduceCtorEq, Nat.reduceAdd, Nat.reduceSub, Nat.reduceMul, Nat.reduceEqDiff, Nat.reduceLT, Nat.reduceLeDiff, Nat.reduceMod, Nat.reduceDiv, Nat.reducePow, Nat.reduceBEq, Int.reduceToNat, Int.reduceLE, Int.reduceLT, Int.reduceEq, Int.reduceAdd, Int.reduceMul, Int.reduceSub, Int.reduceNeg, Int.reduceNe, Tryd.TS, Tryd.EV]
              refine ⟨m, ⟨by omega, fun _ => limb_eq hj (by omega)⟩, Nat.lt_succ_self m, ?_⟩
              refine sub_ren w0 hL0 [(0, 0), (1, 1), (2, 2), (3, 3), (4, 4)] rfl rfl (by simp [keysLt]) rfl ?_ ?_
              · simp [renTm, Go.SE.look, renTV, renSV]
              · simp [renOb, Go.SE.look, renSV]
        · have hge : b ≤ 2 * r + lo / 2 ^ k % 2 := by omega
          subst hV
          simp -dsimp -implicitDefEqProofs (disch := omega) only [↓reduceIte, ↓gA, gB, refs, den, hasTy, Ty.cmp, Ty.depth, reduceCtorEq, Nat.reduceAdd, Nat.reduceSub, Nat.reduceMul, Nat.reduceEqDiff, Nat.reduceLT, Nat.reduceLeDiff, Nat.reduceMod, Nat.reduceDiv, Nat.reducePow, Nat.reduceBEq, Int.reduceToNat, Int.reduceLE, Int.reduceLT, Int.reduceEq, Int.reduceAdd, Int.reduceMul, Int.reduceSub, Int.reduceNeg, Int.reduceNe, Tryd.TS, Tryd.EV]
          first | (with_reducible refine HCall_mono (wsub ((2 * r + lo / 2 ^ k % 2) % 115792089237316195423570985008687907853269984665640564039457584007913129639936) b (Nat.mod_lt _ (by omega)) hb) ?_; rintro rs rfl) | (with_reducible refine HCallF_mono (wsub ((2 * r + lo / 2 ^ k % 2) % 115792089237316195423570985008687907853269984665640564039457584007913129639936) b (Nat.mod_lt _ (by omega)) hb) (by first | rfl | simp [flatR, RV.flat, RV.isD, Ty.flat]) ?_) | (refine SCall.mono (wsub ((2 * r + lo / 2 ^ k % 2) % 115792089237316195423570985008687907853269984665640564039457584007913129639936) b (Nat.mod_lt _ (by omega)) hb) ?_; rintro rs rfl)
          rw [show ((2 * r + lo / 2 ^ k % 2) % 115792089237316195423570985008687907853269984665640564039457584007913129639936 + 115792089237316195423570985008687907853269984665640564039457584007913129639936 - b) % 115792089237316195423570985008687907853269984665640564039457584007913129639936 = 2 * r + lo / 2 ^ k % 2 - b by omega]
          simp -dsimp -implicitDefEqProofs (disch := omega) only [↓reduceIte, ↓gA, gB, refs, den, hasTy, Ty.cmp, Ty.depth, reduceCtorEq, Nat.reduceAdd, Nat.reduceSub, Nat.reduceMul, Nat.reduceEqDiff, Nat.reduceLT, Nat.reduceLeDiff, Nat.reduceMod, Nat.reduceDiv, Nat.reducePow, Nat.reduceBEq, Int.reduceToNat, Int.reduceLE, Int.reduceLT, Int.reduceEq, Int.reduceAdd, Int.reduceMul, Int.reduceSub, Int.reduceNeg, Int.reduceNe, Tryd.TS, Tryd.EV]
          refine sdraw (id := 18) Tryd.hT (by kernel_rfl) [9] [] [0, 1, 2, 3, 4, 5, 6, 7, 8, 9] (by kernel_rfl) (by kernel_rfl) (by kernel_rfl) ?_; simp only [gK, ↓reduceIte, Nat.reduceEqDiff]
          simp -dsimp -implicitDefEqProofs (disch := omega) only [↓reduceIte, ↓gA, gB, refs, den, hasTy, Ty.cmp, Ty.depth, reduceCtorEq, Nat.reduceAdd, Nat.reduceSub, Nat.reduceMul, Nat.reduceEqDiff, Nat.reduceLT, Nat.reduceLeDiff, Nat.reduceMod, Nat.reduceDiv, Nat.reducePow, Nat.reduceBEq, Int.reduceToNat, Int.reduceLE, Int.reduceLT, Int.reduceEq, Int.reduceAdd, Int.reduceMul, Int.reduceSub, Int.reduceNeg, Int.reduceNe, Tryd.TS, Tryd.EV, td64, tm64, u256_at _ hk4, u256_list, hset]
          repeat (refine And.intro (by omega) ?_)
          refine ⟨(k, 2 * Q + 1, 2 * r + lo / 2 ^ k % 2 - b), hI.more hge, Nat.lt_succ_self k, ?_⟩
          refine sub_ren w0 hL0 [(0, 0), (1, 1), (2, 2), (3, 3), (4, 4)] rfl rfl (by simp [keysLt]) rfl ?_ ?_
          · simp [renTm, Go.SE.look, renTV, renSV]
          · simp [renOb, Go.SE.look, renSV, hqe]
      · have hj00 : j = 0 := by omega
        subst hj00
        have hge : b ≤ 2 * r + lo / 2 ^ k % 2 := by
          by_cases ht : top = 0
          · have := hj ht
            simp only [Nat.mul_zero, Nat.pow_zero, Nat.div_one] at this
            omega
          · omega
        subst hV
        simp -dsimp -implicitDefEqProofs (disch := omega) only [↓reduceIte, ↓gA, gB, refs, den, hasTy, Ty.cmp, Ty.depth, reduceCtorEq, Nat.reduceAdd, Nat.reduceSub, Nat.reduceMul, Nat.reduceEqDiff, Nat.reduceLT, Nat.reduceLeDiff, Nat.reduceMod, Nat.reduceDiv, Nat.reducePow, Nat.reduceBEq, Int.reduceToNat, Int.reduceLE, Int.reduceLT, Int.reduceEq, Int.reduceAdd, Int.reduceMul, Int.reduceSub, Int.reduceNeg, Int.reduceNe, Tryd.TS, Tryd.EV]
        first | (with_reducible refine HCall_mono (wsub ((2 * r + lo / 2 ^ k % 2) % 115792089237316195423570985008687907853269984665640564039457584007913129639936) b (Nat.mod_lt _ (by omega)) hb) ?_; rintro rs rfl) | (with_reducible refine HCallF_mono (wsub ((2 * r + lo / 2 ^ k % 2) % 115792089237316195423570985008687907853269984665640564039457584007913129639936) b (Nat.mod_lt _ (by omega)) hb) (by first | rfl | simp [flatR, RV.flat, RV.isD, Ty.flat]) ?_) | (refine SCall.mono (wsub ((2 * r + lo / 2 ^ k % 2) % 115792089237316195423570985008687907853269984665640564039457584007913129639936) b (Nat.mod_lt _ (by omega)) hb) ?_; rintro rs rfl)
        rw [show ((2 * r + lo / 2 ^ k % 2) % 115792089237316195423570985008687907853269984665640564039457584007913129639936 + 115792089237316195423570985008687907853269984665640564039457584007913129639936 - b) % 115792089237316195423570985008687907853269984665640564039457584007913129639936 = 2 * r + lo / 2 ^ k % 2 - b by omega]
        simp -dsimp -implicitDefEqProofs (disch := omega) only [↓reduceIte, ↓gA, gB, refs, den, hasTy, Ty.cmp, Ty.depth, reduceCtorEq, Nat.reduceAdd, Nat.reduceSub, Nat.reduceMul, Nat.reduceEqDiff, Nat.reduceLT, Nat.reduceLeDiff, Nat.reduceMod, Nat.reduceDiv, Nat.reducePow, Nat.reduceBEq, Int.reduceToNat, Int.reduceLE, Int.reduceLT, Int.reduceEq, Int.reduceAdd, Int.reduceMul, Int.reduceSub, Int.reduceNeg, Int.reduceNe, Tryd.TS, Tryd.EV]
        refine sdraw (id := 18) Tryd.hT (by kernel_rfl) [9] [] [0, 1, 2, 3, 4, 5, 6, 7, 8, 9] (by kernel_rfl) (by kernel_rfl) (by kernel_rfl) ?_; simp only [gK, ↓reduceIte, Nat.reduceEqDiff]
        simp -dsimp -implicitDefEqProofs (disch := omega) only [↓reduceIte, ↓gA, gB, refs, den, hasTy, Ty.cmp, Ty.depth, reduceCtorEq, Nat.reduceAdd, Nat.reduceSub, Nat.reduceMul, Nat.reduceEqDiff, Nat.reduceLT, Nat.reduceLeDiff, Nat.reduceMod, Nat.reduceDiv, Nat.reducePow, Nat.reduceBEq, Int.reduceToNat, Int.reduceLE, Int.reduceLT, Int.reduceEq, Int.reduceAdd, Int.reduceMul, Int.reduceSub, Int.reduceNeg, Int.reduceNe, Tryd.TS, Tryd.EV, td64, tm64, u256_at _ hk4, u256_list, hset]
        repeat (refine And.intro (by omega) ?_)
        refine ⟨(k, 2 * Q + 1, 2 * r + lo / 2 ^ k % 2 - b), hI.more hge, Nat.lt_succ_self k, ?_⟩
        refine sub_ren w0 hL0 [(0, 0), (1, 1), (2, 2), (3, 3), (4, 4)] rfl rfl (by simp [keysLt]) rfl ?_ ?_
        · simp [renTm, Go.SE.look, renTV, renSV]
        · simp [renOb, Go.SE.look, renSV, hqe]
    · have : i = 0 := by omega
      subst this
      obtain ⟨rfl, rfl⟩ := hI.done
      simp -dsimp -implicitDefEqProofs (disch := omega) only [↓reduceIte, ↓gA, gB, refs, den, hasTy, Ty.cmp, Ty.depth, reduceCtorEq, Nat.reduceAdd, Nat.reduceSub, Nat.reduceMul, Nat.reduceEqDiff, Nat.reduceLT, Nat.reduceLeDiff, Nat.reduceMod, Nat.reduceDiv, Nat.reducePow, Nat.reduceBEq, Int.reduceToNat, Int.reduceLE, Int.reduceLT, Int.reduceEq, Int.reduceAdd, Int.reduceMul, Int.reduceSub, Int.reduceNeg, Int.reduceNe, Tryd.TS, Tryd.EV]
      refine sdrawT Tryd.hT (by kernel_rfl) [] (.alt 0 (.alt 1 (.alt 2 (.alt 3 (.alt 4 .nil .nil) .nil) .nil) (.alt 2 (.alt 1 (.alt 3 (.alt 4 .nil .nil) .nil) .nil) .nil)) (.alt 1 (.alt 0 (.alt 2 (.alt 3 (.alt 4 .nil .nil) .nil) .nil) .nil) .nil)) (by kernel_rfl) ?_; simp only [tr_alt, tr_nil, tr_nil', pickF, mem1, List.getElem?_toArray, List.getElem?_cons_zero, List.getElem?_cons_succ]
      simp -dsimp -implicitDefEqProofs (disch := omega) only [↓reduceIte, ↓gA, gB, refs, den, hasTy, Ty.cmp, Ty.depth, reduceCtorEq, Nat.reduceAdd, Nat.reduceSub, Nat.reduceMul, Nat.reduceEqDiff, Nat.reduceLT, Nat.reduceLeDiff, Nat.reduceMod, Nat.reduceDiv, Nat.reducePow, Nat.reduceBEq, Int.reduceToNat, Int.reduceLE, Int.reduceLT, Int.reduceEq, Int.reduceAdd, Int.reduceMul, Int.reduceSub, Int.reduceNeg, Int.reduceNe, Tryd.TS, Tryd.EV]
      rw [show 2 ^ 0 * ((hi * 115792089237316195423570985008687907853269984665640564039457584007913129639936 + lo) / b) = (hi * 115792089237316195423570985008687907853269984665640564039457584007913129639936 + lo) / b by omega]
      simp only [and_self]
end Go.Proofs
/- Numbers of 256 bits: modular sums, differences and products. -/
namespace Go.Proofs
open Go.SE

theorem addmod_ge {a b m : Nat} (h0 : 0 < m) (h : m ≤ a % m + b % m) : (a + b) % m = a % m + b % m - m := by
  have h1 := Nat.mod_lt a h0
  have h2 := Nat.mod_lt b h0
  rw [Nat.add_mod, Nat.mod_eq_sub_mod h, Nat.mod_eq_of_lt (by omega)]
theorem addmod_lt {a b m : Nat} (h : a % m + b % m < m) : (a + b) % m = a % m + b % m := by
  rw [Nat.add_mod, Nat.mod_eq_of_lt h]

set_option maxHeartbeats 1000000 in
theorem wmod (a m : Nat) (ha : a < 115792089237316195423570985008687907853269984665640564039457584007913129639936) (hm : m < 115792089237316195423570985008687907853269984665640564039457584007913129639936) (h0 : 0 < m) : SCall Tryd.prog 105 [(.arr 4 (.int .u64), u256 a), (.arr 4 (.int .u64), u256 m)] (fun rs => rs = [.d (.arr 4 (.int .u64)) (u256 (a % m))]) := by
  refine scall_intro (n := 22) (rl := [.cell 4 45]) (us := [45]) Tryd.hT Tryd.func105 rfl rfl rfl rfl rfl (Nat.le_of_ble_eq_true rfl) ?_
  intro w0 hL0
  simp -dsimp -implicitDefEqProofs (disch := omega) only [↓reduceIte, ↓gA, gB, refs, den, hasTy, Ty.cmp, Ty.depth, reduceCtorEq, Nat.reduceAdd, Nat.reduceSub, Nat.reduceMul, Nat.reduceEqDiff, Nat.reduceLT, Nat.reduceLeDiff, Nat.reduceMod, Nat.reduceDiv, Nat.reducePow, Nat.reduceBEq, Int.reduceToNat, Int.reduceLE, Int.reduceLT, Int.reduceEq, Int.reduceAdd, Int.reduceMul, Int.reduceSub, Int.reduceNeg, Int.reduceNe, Tryd.TS, Tryd.EV, rep4]
  first | (with_reducible refine HCall_mono (wcmp a m ha hm) ?_; rintro rs rfl) | (with_reducible refine HCallF_mono (wcmp a m ha hm) (by first | rfl | simp [flatR, RV.flat, RV.isD, Ty.flat]) ?_) | (refine SCall.mono (wcmp a m ha hm) ?_; rintro rs rfl)
  simp -dsimp -implicitDefEqProofs (disch := omega) only [↓reduceIte, ↓gA, gB, refs, den, hasTy, Ty.cmp, Ty.depth, reduceCtorEq, Nat.reduceAdd, Nat.reduceSub, Nat.reduceMul, Nat.reduceEqDiff, Nat.reduceLT, Nat.reduceLeDiff, Nat.reduceMod, Nat.reduceDiv, Nat.reducePow, Nat.reduceBEq, Int.reduceToNat, Int.reduceLE, Int.reduceLT, Int.reduceEq, Int.reduceAdd, Int.reduceMul, Int.reduceSub, Int.reduceNeg, Int.reduceNe, Tryd.TS, Tryd.EV]
  refine HIf_dec (a := ()) (b := ()) (fun h => ?_) (fun h => ?_)
  · have hlt : a < m := by
      split at h
      · assumption
      · split at h <;> omega
    simp -dsimp -implicitDefEqProofs (disch := omega) only [↓reduceIte, ↓gA, gB, refs, den, hasTy, Ty.cmp, Ty.depth, reduceCtorEq, Nat.reduceAdd, Nat.reduceSub, Nat.reduceMul, Nat.reduceEqDiff, Nat.reduceLT, Nat.reduceLeDiff, Nat.reduceMod, Nat.reduceDiv, Nat.reducePow, Nat.reduceBEq, Int.reduceToNat, Int.reduceLE, Int.reduceLT, Int.reduceEq, Int.reduceAdd, Int.reduceMul, Int.reduceSub, Int.reduceNeg, Int.reduceNe, Tryd.TS, Tryd.EV]
    rw [Nat.mod_eq_of_lt hlt]
  · simp -dsimp -implicitDefEqProofs (disch := omega) only [↓reduceIte, ↓gA, gB, refs, den, hasTy, Ty.cmp, Ty.depth, reduceCtorEq, Nat.reduceAdd, Nat.reduceSub, Nat.reduceMul, Nat.reduceEqDiff, Nat.reduceLT, Nat.reduceLeDiff, Nat.reduceMod, Nat.reduceDiv, Nat.reducePow, Nat.reduceBEq, Int.reduceToNat, Int.reduceLE, Int.reduceLT, Int.reduceEq, Int.reduceAdd, Int.reduceMul, Int.reduceSub, Int.reduceNeg, Int.reduceNe, Tryd.TS, Tryd.EV, rep4, u256_zero]
    first | (with_reducible refine HCall_mono (wdiv 0 a m h0 ha hm) ?_; rintro rs rfl) | (with_reducible refine HCallF_mono (wdiv 0 a m h0 ha hm) (by first | rfl | simp [flatR, RV.flat, RV.isD, Ty.flat]) ?_) | (refine SCall.mono (wdiv 0 a m h0 ha hm) ?_; rintro rs rfl)
    simp -dsimp -implicitDefEqProofs (disch := omega) only [↓reduceIte, ↓gA, gB, refs, den, hasTy, Ty.cmp, Ty.depth, reduceCtorEq, Nat.reduceAdd, Nat.reduceSub, Nat.reduceMul, Nat.reduceEqDiff, Nat.reduceLT, Nat.reduceLeDiff, Nat.reduceMod, Nat.reduceDiv, Nat.reducePow, Nat.reduceBEq, Int.reduceToNat, Int.reduceLE, Int.reduceLT, Int.reduceEq, Int.reduceAdd, Int.reduceMul, Int.reduceSub, Int.reduceNeg, Int.reduceNe, Tryd.TS, Tryd.EV]

set_option maxHeartbeats 1000000 in
theorem wreduceRef (a m : Nat) (ha : a < 115792089237316195423570985008687907853269984665640564039457584007913129639936) (hm : m < 115792089237316195423570985008687907853269984665640564039457584007913129639936) (h0 : 0 < m) : SCall Tryd.prog 79 [(.arr 4 (.int .u64), u256 a), (.arr 4 (.int .u64), u256 m)] (fun rs => rs = [.d (.arr 4 (.int .u64)) (u256 (a % m))]) := by
  refine scall_intro (n := 17) (rl := [.cell 4 45]) (us := [45]) Tryd.hT Tryd.func79 rfl rfl rfl rfl rfl (Nat.le_of_ble_eq_true rfl) ?_
  intro w0 hL0
  simp -dsimp -implicitDefEqProofs (disch := omega) only [↓reduceIte, ↓gA, gB, refs, den, hasTy, Ty.cmp, Ty.depth, reduceCtorEq, Nat.reduceAdd, Nat.reduceSub, Nat.reduceMul, Nat.reduceEqDiff, Nat.reduceLT, Nat.reduceLeDiff, Nat.reduceMod, Nat.reduceDiv, Nat.reducePow, Nat.reduceBEq, Int.reduceToNat, Int.reduceLE, Int.reduceLT, Int.reduceEq, Int.reduceAdd, Int.reduceMul, Int.reduceSub, Int.reduceNeg, Int.reduceNe, Tryd.TS, Tryd.EV, rep4, u256_zero]
  first | (with_reducible refine HCall_mono (wdivRef 0 a m h0 ha hm) ?_; rintro rs rfl) | (with_reducible refine HCallF_mono (wdivRef 0 a m h0 ha hm) (by first | rfl | simp [flatR, RV.flat, RV.isD, Ty.flat]) ?_) | (refine SCall.mono (wdivRef 0 a m h0 ha hm) ?_; rintro rs rfl)
  simp -dsimp -implicitDefEqProofs (disch := omega) only [↓reduceIte, ↓gA, gB, refs, den, hasTy, Ty.cmp, Ty.depth, reduceCtorEq, Nat.reduceAdd, Nat.reduceSub, Nat.reduceMul, Nat.reduceEqDiff, Nat.reduceLT, Nat.reduceLeDiff, Nat.reduceMod, Nat.reduceDiv, Nat.reducePow, Nat.reduceBEq, Int.reduceToNat, Int.reduceLE, Int.reduceLT, Int.reduceEq, Int.reduceAdd, Int.reduceMul, Int.reduceSub, Int.reduceNeg, Int.reduceNe, Tryd.TS, Tryd.EV]

set_option maxHeartbeats 1000000 in
theorem waddmod (a b m : Nat) (ha : a < 115792089237316195423570985008687907853269984665640564039457584007913129639936) (hb : b < 115792089237316195423570985008687907853269984665640564039457584007913129639936) (hm : m < 115792089237316195423570985008687907853269984665640564039457584007913129639936) (h0 : 0 < m) : SCall Tryd.prog 77 [(.arr 4 (.int .u64), u256 a), (.arr 4 (.int .u64), u256 b), (.arr 4 (.int .u64), u256 m)] (fun rs => rs = [.d (.arr 4 (.int .u64)) (u256 ((a + b) % m))]) := by
  have ham : a % m < m := Nat.mod_lt _ h0
  have hbm : b % m < m := Nat.mod_lt _ h0
  have hma : a % m < 115792089237316195423570985008687907853269984665640564039457584007913129639936 := by omega
  have hmb : b % m < 115792089237316195423570985008687907853269984665640564039457584007913129639936 := by omega
  refine scall_intro (n := 33) (rl := [.cell 6 45]) (us := [45]) Tryd.hT Tryd.func77 rfl rfl rfl rfl rfl (Nat.le_of_ble_eq_true rfl) ?_
  intro w0 hL0
  simp -dsimp -implicitDefEqProofs (disch := omega) only [↓reduceIte, ↓gA, gB, refs, den, hasTy, Ty.cmp, Ty.depth, reduceCtorEq, Nat.reduceAdd, Nat.reduceSub, Nat.reduceMul, Nat.reduceEqDiff, Nat.reduceLT, Nat.reduceLeDiff, Nat.reduceMod, Nat.reduceDiv, Nat.reducePow, Nat.reduceBEq, Int.reduceToNat, Int.reduceLE, Int.reduceLT, Int.reduceEq, Int.reduceAdd, Int.reduceMul, Int.reduceSub, Int.reduceNeg, Int.reduceNe, Tryd.TS, Tryd.EV, rep4]
  refine sdrawM Tryd.hT (by kernel_rfl) [11] [2, 5, 6] (.alt 0 (.alt 1 (.alt 3 (.alt 4 (.alt 2 (.alt 5 (.alt 6 (.alt 7 (.alt 8 (.alt 9 (.alt 10 (.alt 11 (.alt 12 .nil .nil) .nil) .nil) .nil) .nil) .nil) .nil) .nil) .nil) .nil) .nil) .nil) .nil) ⟨33, [(3, .v (.ptr 0 [])), (4, .v (.ptr 1 [])), (5, .v (.ptr 2 [])), (6, .v (.ptr 3 [])), (7, .v (.ptr 4 [])), (8, .v (.d .bool (.b (decide (115792089237316195423570985008687907853269984665640564039457584007913129639936 ≤ a % m + b % m)))))], [(0, ⟨.arr 4 (.int .u64), .d (.arr 4 (.int .u64)) (u256 a)⟩), (1, ⟨.arr 4 (.int .u64), .d (.arr 4 (.int .u64)) (u256 b)⟩), (2, ⟨.arr 4 (.int .u64), .d (.arr 4 (.int .u64)) (u256 m)⟩), (3, ⟨.arr 4 (.int .u64), .d (.arr 4 (.int .u64)) (.l [.n 0, .n 0, .n 0, .n 0])⟩), (4, ⟨.arr 4 (.int .u64), .d (.arr 4 (.int .u64)) (u256 ((a % m + b % m) % 115792089237316195423570985008687907853269984665640564039457584007913129639936))⟩)], 5⟩ (by kernel_rfl) (by kernel_rfl) ?_ ?_
  · simp only [tr_alt, tr_nil, tr_nil', gK, ↓reduceIte, Nat.reduceEqDiff]
    simp -dsimp -implicitDefEqProofs (disch := omega) only [↓reduceIte, ↓gA, gB, refs, den, hasTy, Ty.cmp, Ty.depth, reduceCtorEq, Nat.reduceAdd, Nat.reduceSub, Nat.reduceMul, Nat.reduceEqDiff, Nat.reduceLT, Nat.reduceLeDiff, Nat.reduceMod, Nat.reduceDiv, Nat.reducePow, Nat.reduceBEq, Int.reduceToNat, Int.reduceLE, Int.reduceLT, Int.reduceEq, Int.reduceAdd, Int.reduceMul, Int.reduceSub, Int.reduceNeg, Int.reduceNe, Tryd.TS, Tryd.EV, rep4]
    repeat' (first
      | with_reducible refine And.intro ?_ ?_
      | (first | (with_reducible refine HCall_mono (wmod a m ha hm h0) ?_; rintro rs rfl) | (with_reducible refine HCallF_mono (wmod a m ha hm h0) (by first | rfl | simp [flatR, RV.flat, RV.isD, Ty.flat]) ?_)
         simp -dsimp -implicitDefEqProofs (disch := omega) only [↓reduceIte, ↓gA, gB, refs, den, hasTy, Ty.cmp, Ty.depth, reduceCtorEq, Nat.reduceAdd, Nat.reduceSub, Nat.reduceMul, Nat.reduceEqDiff, Nat.reduceLT, Nat.reduceLeDiff, Nat.reduceMod, Nat.reduceDiv, Nat.reducePow, Nat.reduceBEq, Int.reduceToNat, Int.reduceLE, Int.reduceLT, Int.reduceEq, Int.reduceAdd, Int.reduceMul, Int.reduceSub, Int.reduceNeg, Int.reduceNe, Tryd.TS, Tryd.EV, rep4])
      | (first | (with_reducible refine HCall_mono (wmod b m hb hm h0) ?_; rintro rs rfl) | (with_reducible refine HCallF_mono (wmod b m hb hm h0) (by first | rfl | simp [flatR, RV.flat, RV.isD, Ty.flat]) ?_)
         simp -dsimp -implicitDefEqProofs (disch := omega) only [↓reduceIte, ↓gA, gB, refs, den, hasTy, Ty.cmp, Ty.depth, reduceCtorEq, Nat.reduceAdd, Nat.reduceSub, Nat.reduceMul, Nat.reduceEqDiff, Nat.reduceLT, Nat.reduceLeDiff, Nat.reduceMod, Nat.reduceDiv, Nat.reducePow, Nat.reduceBEq, Int.reduceToNat, Int.reduceLE, Int.reduceLT, Int.reduceEq, Int.reduceAdd, Int.reduceMul, Int.reduceSub, Int.reduceNeg, Int.reduceNe, Tryd.TS, Tryd.EV, rep4])
      | (first | (with_reducible refine HCall_mono (wadd (a % m) (b % m) hma hmb) ?_; rintro rs rfl) | (with_reducible refine HCallF_mono (wadd (a % m) (b % m) hma hmb) (by first | rfl | simp [flatR, RV.flat, RV.isD, Ty.flat]) ?_)
         simp -dsimp -implicitDefEqProofs (disch := omega) only [↓reduceIte, ↓gA, gB, refs, den, hasTy, Ty.cmp, Ty.depth, reduceCtorEq, Nat.reduceAdd, Nat.reduceSub, Nat.reduceMul, Nat.reduceEqDiff, Nat.reduceLT, Nat.reduceLeDiff, Nat.reduceMod, Nat.reduceDiv, Nat.reducePow, Nat.reduceBEq, Int.reduceToNat, Int.reduceLE, Int.reduceLT, Int.reduceEq, Int.reduceAdd, Int.reduceMul, Int.reduceSub, Int.reduceNeg, Int.reduceNe, Tryd.TS, Tryd.EV, rep4])
      | with_reducible exact True.intro
      | (first | (refine sub_ren w0 hL0 [(0, 0), (1, 1), (2, 2), (3, 3), (4, 4)] rfl rfl ?_ rfl ?_ ?_; (focus (simp [keysLt]; done)); (focus (simp [renTm, Go.SE.look, renTV, renSV]; done)); (focus (simp [renOb, Go.SE.look, renSV]; done))) | (refine sub_ren w0 hL0 [(0, 0), (1, 1), (2, 2), (3, 3), (4, 5)] rfl rfl ?_ rfl ?_ ?_; (focus (simp [keysLt]; done)); (focus (simp [renTm, Go.SE.look, renTV, renSV]; done)); (focus (simp [renOb, Go.SE.look, renSV]; done))) | (refine sub_ren w0 hL0 [(0, 0), (1, 1), (2, 2), (3, 3), (4, 6)] rfl rfl ?_ rfl ?_ ?_; (focus (simp [keysLt]; done)); (focus (simp [renTm, Go.SE.look, renTV, renSV]; done)); (focus (simp [renOb, Go.SE.look, renSV]; done))) | (refine sub_ren w0 hL0 [(0, 0), (1, 1), (2, 2), (3, 3), (4, 8)] rfl rfl ?_ rfl ?_ ?_; (focus (simp [keysLt]; done)); (focus (simp [renTm, Go.SE.look, renTV, renSV]; done)); (focus (simp [renOb, Go.SE.look, renSV]; done)))))
  simp -dsimp -implicitDefEqProofs (disch := omega) only [↓reduceIte, ↓gA, gB, refs, den, hasTy, Ty.cmp, Ty.depth, reduceCtorEq, Nat.reduceAdd, Nat.reduceSub, Nat.reduceMul, Nat.reduceEqDiff, Nat.reduceLT, Nat.reduceLeDiff, Nat.reduceMod, Nat.reduceDiv, Nat.reducePow, Nat.reduceBEq, Int.reduceToNat, Int.reduceLE, Int.reduceLT, Int.reduceEq, Int.reduceAdd, Int.reduceMul, Int.reduceSub, Int.reduceNeg, Int.reduceNe, Tryd.TS, Tryd.EV]
  refine HIf_dec (a := ()) (b := ()) (fun hov => ?_) (fun hov => ?_)
  · simp -dsimp -implicitDefEqProofs (disch := omega) only [↓reduceIte, ↓gA, gB, refs, den, hasTy, Ty.cmp, Ty.depth, reduceCtorEq, Nat.reduceAdd, Nat.reduceSub, Nat.reduceMul, Nat.reduceEqDiff, Nat.reduceLT, Nat.reduceLeDiff, Nat.reduceMod, Nat.reduceDiv, Nat.reducePow, Nat.reduceBEq, Int.reduceToNat, Int.reduceLE, Int.reduceLT, Int.reduceEq, Int.reduceAdd, Int.reduceMul, Int.reduceSub, Int.reduceNeg, Int.reduceNe, Tryd.TS, Tryd.EV]
    first | (with_reducible refine HCall_mono (wsub ((a % m + b % m) % 115792089237316195423570985008687907853269984665640564039457584007913129639936) m (Nat.mod_lt _ (by omega)) hm) ?_; rintro rs rfl) | (with_reducible refine HCallF_mono (wsub ((a % m + b % m) % 115792089237316195423570985008687907853269984665640564039457584007913129639936) m (Nat.mod_lt _ (by omega)) hm) (by first | rfl | simp [flatR, RV.flat, RV.isD, Ty.flat]) ?_) | (refine SCall.mono (wsub ((a % m + b % m) % 115792089237316195423570985008687907853269984665640564039457584007913129639936) m (Nat.mod_lt _ (by omega)) hm) ?_; rintro rs rfl)
    simp -dsimp -implicitDefEqProofs (disch := omega) only [↓reduceIte, ↓gA, gB, refs, den, hasTy, Ty.cmp, Ty.depth, reduceCtorEq, Nat.reduceAdd, Nat.reduceSub, Nat.reduceMul, Nat.reduceEqDiff, Nat.reduceLT, Nat.reduceLeDiff, Nat.reduceMod, Nat.reduceDiv, Nat.reducePow, Nat.reduceBEq, Int.reduceToNat, Int.reduceLE, Int.reduceLT, Int.reduceEq, Int.reduceAdd, Int.reduceMul, Int.reduceSub, Int.reduceNeg, Int.reduceNe, Tryd.TS, Tryd.EV]
    rw [show ((a % m + b % m) % 115792089237316195423570985008687907853269984665640564039457584007913129639936 + 115792089237316195423570985008687907853269984665640564039457584007913129639936 - m) % 115792089237316195423570985008687907853269984665640564039457584007913129639936 = (a + b) % m by rw [addmod_ge h0 (by omega)]; omega]
  simp -dsimp -implicitDefEqProofs (disch := omega) only [↓reduceIte, ↓gA, gB, refs, den, hasTy, Ty.cmp, Ty.depth, reduceCtorEq, Nat.reduceAdd, Nat.reduceSub, Nat.reduceMul, Nat.reduceEqDiff, Nat.reduceLT, Nat.reduceLeDiff, Nat.reduceMod, Nat.reduceDiv, Nat.reducePow, Nat.reduceBEq, Int.reduceToNat, Int.reduceLE, Int.reduceLT, Int.reduceEq, Int.reduceAdd, Int.reduceMul, Int.reduceSub, Int.reduceNeg, Int.reduceNe, Tryd.TS, Tryd.EV]
  first | (with_reducible refine HCall_mono (wcmp ((a % m + b % m) % 115792089237316195423570985008687907853269984665640564039457584007913129639936) m (Nat.mod_lt _ (by omega)) hm) ?_; rintro rs rfl) | (with_reducible refine HCallF_mono (wcmp ((a % m + b % m) % 115792089237316195423570985008687907853269984665640564039457584007913129639936) m (Nat.mod_lt _ (by omega)) hm) (by first | rfl | simp [flatR, RV.flat, RV.isD, Ty.flat]) ?_) | (refine SCall.mono (wcmp ((a % m + b % m) % 115792089237316195423570985008687907853269984665640564039457584007913129639936) m (Nat.mod_lt _ (by omega)) hm) ?_; rintro rs rfl)
  simp -dsimp -implicitDefEqProofs (disch := omega) only [↓reduceIte, ↓gA, gB, refs, den, hasTy, Ty.cmp, Ty.depth, reduceCtorEq, Nat.reduceAdd, Nat.reduceSub, Nat.reduceMul, Nat.reduceEqDiff, Nat.reduceLT, Nat.reduceLeDiff, Nat.reduceMod, Nat.reduceDiv, Nat.reducePow, Nat.reduceBEq, Int.reduceToNat, Int.reduceLE, Int.reduceLT, Int.reduceEq, Int.reduceAdd, Int.reduceMul, Int.reduceSub, Int.reduceNeg, Int.reduceNe, Tryd.TS, Tryd.EV]
  refine HIf_dec (a := ()) (b := ()) (fun hc => ?_) (fun hc => ?_)
  · simp -dsimp -implicitDefEqProofs (disch := omega) only [↓reduceIte, ↓gA, gB, refs, den, hasTy, Ty.cmp, Ty.depth, reduceCtorEq, Nat.reduceAdd, Nat.reduceSub, Nat.reduceMul, Nat.reduceEqDiff, Nat.reduceLT, Nat.reduceLeDiff, Nat.reduceMod, Nat.reduceDiv, Nat.reducePow, Nat.reduceBEq, Int.reduceToNat, Int.reduceLE, Int.reduceLT, Int.reduceEq, Int.reduceAdd, Int.reduceMul, Int.reduceSub, Int.reduceNeg, Int.reduceNe, Tryd.TS, Tryd.EV]
    first | (with_reducible refine HCall_mono (wsub ((a % m + b % m) % 115792089237316195423570985008687907853269984665640564039457584007913129639936) m (Nat.mod_lt _ (by omega)) hm) ?_; rintro rs rfl) | (with_reducible refine HCallF_mono (wsub ((a % m + b % m) % 115792089237316195423570985008687907853269984665640564039457584007913129639936) m (Nat.mod_lt _ (by omega)) hm) (by first | rfl | simp [flatR, RV.flat, RV.isD, Ty.flat]) ?_) | (refine SCall.mono (wsub ((a % m + b % m) % 115792089237316195423570985008687907853269984665640564039457584007913129639936) m (Nat.mod_lt _ (by omega)) hm) ?_; rintro rs rfl)
    simp -dsimp -implicitDefEqProofs (disch := omega) only [↓reduceIte, ↓gA, gB, refs, den, hasTy, Ty.cmp, Ty.depth, reduceCtorEq, Nat.reduceAdd, Nat.reduceSub, Nat.reduceMul, Nat.reduceEqDiff, Nat.reduceLT, Nat.reduceLeDiff, Nat.reduceMod, Nat.reduceDiv, Nat.reducePow, Nat.reduceBEq, Int.reduceToNat, Int.reduceLE, Int.reduceLT, Int.reduceEq, Int.reduceAdd, Int.reduceMul, Int.reduceSub, Int.reduceNeg, Int.reduceNe, Tryd.TS, Tryd.EV]
    have hge : m ≤ a % m + b % m := by
      split at hc
      · omega
      · split at hc <;> omega
    rw [show ((a % m + b % m) % 115792089237316195423570985008687907853269984665640564039457584007913129639936 + 115792089237316195423570985008687907853269984665640564039457584007913129639936 - m) % 115792089237316195423570985008687907853269984665640564039457584007913129639936 = (a + b) % m by rw [addmod_ge h0 (by omega)]; omega]
  · simp -dsimp -implicitDefEqProofs (disch := omega) only [↓reduceIte, ↓gA, gB, refs, den, hasTy, Ty.cmp, Ty.depth, reduceCtorEq, Nat.reduceAdd, Nat.reduceSub, Nat.reduceMul, Nat.reduceEqDiff, Nat.reduceLT, Nat.reduceLeDiff, Nat.reduceMod, Nat.reduceDiv, Nat.reducePow, Nat.reduceBEq, Int.reduceToNat, Int.reduceLE, Int.reduceLT, Int.reduceEq, Int.reduceAdd, Int.reduceMul, Int.reduceSub, Int.reduceNeg, Int.reduceNe, Tryd.TS, Tryd.EV]
    have hlt : a % m + b % m < m := by
      split at hc
      · omega
      · split at hc <;> omega
    rw [show (a % m + b % m) % 115792089237316195423570985008687907853269984665640564039457584007913129639936 = (a + b) % m by rw [addmod_lt hlt]; omega]

set_option maxHeartbeats 1000000 in
theorem waddmodRef (a b m : Nat) (ha : a < 115792089237316195423570985008687907853269984665640564039457584007913129639936) (hb : b < 115792089237316195423570985008687907853269984665640564039457584007913129639936) (hm : m < 115792089237316195423570985008687907853269984665640564039457584007913129639936) (h0 : 0 < m) : SCall Tryd.prog 44 [(.arr 4 (.int .u64), u256 a), (.arr 4 (.int .u64), u256 b), (.arr 4 (.int .u64), u256 m)] (fun rs => rs = [.d (.arr 4 (.int .u64)) (u256 ((a + b) % m))]) := by
  refine scall_intro (n := 38) (rl := [.cell 6 45]) (us := [45]) Tryd.hT Tryd.func44 rfl rfl rfl rfl rfl (Nat.le_of_ble_eq_true rfl) ?_
  intro w0 hL0
  simp -dsimp -implicitDefEqProofs (disch := omega) only [↓reduceIte, ↓gA, gB, refs, den, hasTy, Ty.cmp, Ty.depth, reduceCtorEq, Nat.reduceAdd, Nat.reduceSub, Nat.reduceMul, Nat.reduceEqDiff, Nat.reduceLT, Nat.reduceLeDiff, Nat.reduceMod, Nat.reduceDiv, Nat.reducePow, Nat.reduceBEq, Int.reduceToNat, Int.reduceLE, Int.reduceLT, Int.reduceEq, Int.reduceAdd, Int.reduceMul, Int.reduceSub, Int.reduceNeg, Int.reduceNe, Tryd.TS, Tryd.EV, rep4]
  first | (with_reducible refine HCall_mono (wzeroRef m hm) ?_; rintro rs rfl) | (with_reducible refine HCallF_mono (wzeroRef m hm) (by first | rfl | simp [flatR, RV.flat, RV.isD, Ty.flat]) ?_) | (refine SCall.mono (wzeroRef m hm) ?_; rintro rs rfl)
  simp -dsimp -implicitDefEqProofs (disch := omega) only [↓reduceIte, ↓gA, gB, refs, den, hasTy, Ty.cmp, Ty.depth, reduceCtorEq, Nat.reduceAdd, Nat.reduceSub, Nat.reduceMul, Nat.reduceEqDiff, Nat.reduceLT, Nat.reduceLeDiff, Nat.reduceMod, Nat.reduceDiv, Nat.reducePow, Nat.reduceBEq, Int.reduceToNat, Int.reduceLE, Int.reduceLT, Int.reduceEq, Int.reduceAdd, Int.reduceMul, Int.reduceSub, Int.reduceNeg, Int.reduceNe, Tryd.TS, Tryd.EV]
  refine HIf_dec (a := ()) (b := ()) (fun hz => ?_) (fun hz => ?_)
  · omega
  simp -dsimp -implicitDefEqProofs (disch := omega) only [↓reduceIte, ↓gA, gB, refs, den, hasTy, Ty.cmp, Ty.depth, reduceCtorEq, Nat.reduceAdd, Nat.reduceSub, Nat.reduceMul, Nat.reduceEqDiff, Nat.reduceLT, Nat.reduceLeDiff, Nat.reduceMod, Nat.reduceDiv, Nat.reducePow, Nat.reduceBEq, Int.reduceToNat, Int.reduceLE, Int.reduceLT, Int.reduceEq, Int.reduceAdd, Int.reduceMul, Int.reduceSub, Int.reduceNeg, Int.reduceNe, Tryd.TS, Tryd.EV]
  have ham : a % m < m := Nat.mod_lt _ h0
  have hbm : b % m < m := Nat.mod_lt _ h0
  refine sdraw (id := 3) Tryd.hT (by kernel_rfl) [6, 7] [] [0, 1, 3, 4, 2, 5, 6, 7] (by kernel_rfl) (by kernel_rfl) (by kernel_rfl) ?_; simp only [gK, ↓reduceIte, Nat.reduceEqDiff]
  simp -dsimp -implicitDefEqProofs (disch := omega) only [↓reduceIte, ↓gA, gB, refs, den, hasTy, Ty.cmp, Ty.depth, reduceCtorEq, Nat.reduceAdd, Nat.reduceSub, Nat.reduceMul, Nat.reduceEqDiff, Nat.reduceLT, Nat.reduceLeDiff, Nat.reduceMod, Nat.reduceDiv, Nat.reducePow, Nat.reduceBEq, Int.reduceToNat, Int.reduceLE, Int.reduceLT, Int.reduceEq, Int.reduceAdd, Int.reduceMul, Int.reduceSub, Int.reduceNeg, Int.reduceNe, Tryd.TS, Tryd.EV]
  first | (with_reducible refine HCall_mono (wreduceRef a m ha hm h0) ?_; rintro rs rfl) | (with_reducible refine HCallF_mono (wreduceRef a m ha hm h0) (by first | rfl | simp [flatR, RV.flat, RV.isD, Ty.flat]) ?_) | (refine SCall.mono (wreduceRef a m ha hm h0) ?_; rintro rs rfl)
  simp -dsimp -implicitDefEqProofs (disch := omega) only [↓reduceIte, ↓gA, gB, refs, den, hasTy, Ty.cmp, Ty.depth, reduceCtorEq, Nat.reduceAdd, Nat.reduceSub, Nat.reduceMul, Nat.reduceEqDiff, Nat.reduceLT, Nat.reduceLeDiff, Nat.reduceMod, Nat.reduceDiv, Nat.reducePow, Nat.reduceBEq, Int.reduceToNat, Int.reduceLE, Int.reduceLT, Int.reduceEq, Int.reduceAdd, Int.reduceMul, Int.reduceSub, Int.reduceNeg, Int.reduceNe, Tryd.TS, Tryd.EV]
  first | (with_reducible refine HCall_mono (wreduceRef b m hb hm h0) ?_; rintro rs rfl) | (with_reducible refine HCallF_mono (wreduceRef b m hb hm h0) (by first | rfl | simp [flatR, RV.flat, RV.isD, Ty.flat]) ?_) | (refine SCall.mono (wreduceRef b m hb hm h0) ?_; rintro rs rfl)
  simp -dsimp -implicitDefEqProofs (disch := omega) only [↓reduceIte, ↓gA, gB, refs, den, hasTy, Ty.cmp, Ty.depth, reduceCtorEq, Nat.reduceAdd, Nat.reduceSub, Nat.reduceMul, Nat.reduceEqDiff, Nat.reduceLT, Nat.reduceLeDiff, Nat.reduceMod, Nat.reduceDiv, Nat.reducePow, Nat.reduceBEq, Int.reduceToNat, Int.reduceLE, Int.reduceLT, Int.reduceEq, Int.reduceAdd, Int.reduceMul, Int.reduceSub, Int.reduceNeg, Int.reduceNe, Tryd.TS, Tryd.EV]
  first | (with_reducible refine HCall_mono (waddRef (a % m) (b % m) (by omega) (by omega)) ?_; rintro rs rfl) | (with_reducible refine HCallF_mono (waddRef (a % m) (b % m) (by omega) (by omega)) (by first | rfl | simp [flatR, RV.flat, RV.isD, Ty.flat]) ?_) | (refine SCall.mono (waddRef (a % m) (b % m) (by omega) (by omega)) ?_; rintro rs rfl)
  simp -dsimp -implicitDefEqProofs (disch := omega) only [↓reduceIte, ↓gA, gB, refs, den, hasTy, Ty.cmp, Ty.depth, reduceCtorEq, Nat.reduceAdd, Nat.reduceSub, Nat.reduceMul, Nat.reduceEqDiff, Nat.reduceLT, Nat.reduceLeDiff, Nat.reduceMod, Nat.reduceDiv, Nat.reducePow, Nat.reduceBEq, Int.reduceToNat, Int.reduceLE, Int.reduceLT, Int.reduceEq, Int.reduceAdd, Int.reduceMul, Int.reduceSub, Int.reduceNeg, Int.reduceNe, Tryd.TS, Tryd.EV]
  refine HIf_dec (a := ()) (b := ()) (fun hov => ?_) (fun hov => ?_)
  · simp -dsimp -implicitDefEqProofs (disch := omega) only [↓reduceIte, ↓gA, gB, refs, den, hasTy, Ty.cmp, Ty.depth, reduceCtorEq, Nat.reduceAdd, Nat.reduceSub, Nat.reduceMul, Nat.reduceEqDiff, Nat.reduceLT, Nat.reduceLeDiff, Nat.reduceMod, Nat.reduceDiv, Nat.reducePow, Nat.reduceBEq, Int.reduceToNat, Int.reduceLE, Int.reduceLT, Int.reduceEq, Int.reduceAdd, Int.reduceMul, Int.reduceSub, Int.reduceNeg, Int.reduceNe, Tryd.TS, Tryd.EV]
    first | (with_reducible refine HCall_mono (wsubRef ((a % m + b % m) % 115792089237316195423570985008687907853269984665640564039457584007913129639936) m (Nat.mod_lt _ (by omega)) hm) ?_; rintro rs rfl) | (with_reducible refine HCallF_mono (wsubRef ((a % m + b % m) % 115792089237316195423570985008687907853269984665640564039457584007913129639936) m (Nat.mod_lt _ (by omega)) hm) (by first | rfl | simp [flatR, RV.flat, RV.isD, Ty.flat]) ?_) | (refine SCall.mono (wsubRef ((a % m + b % m) % 115792089237316195423570985008687907853269984665640564039457584007913129639936) m (Nat.mod_lt _ (by omega)) hm) ?_; rintro rs rfl)
    simp -dsimp -implicitDefEqProofs (disch := omega) only [↓reduceIte, ↓gA, gB, refs, den, hasTy, Ty.cmp, Ty.depth, reduceCtorEq, Nat.reduceAdd, Nat.reduceSub, Nat.reduceMul, Nat.reduceEqDiff, Nat.reduceLT, Nat.reduceLeDiff, Nat.reduceMod, Nat.reduceDiv, Nat.reducePow, Nat.reduceBEq, Int.reduceToNat, Int.reduceLE, Int.reduceLT, Int.reduceEq, Int.reduceAdd, Int.reduceMul, Int.reduceSub, Int.reduceNeg, Int.reduceNe, Tryd.TS, Tryd.EV]
    rw [show ((a % m + b % m) % 115792089237316195423570985008687907853269984665640564039457584007913129639936 + 115792089237316195423570985008687907853269984665640564039457584007913129639936 - m) % 115792089237316195423570985008687907853269984665640564039457584007913129639936 = (a + b) % m by rw [addmod_ge h0 (by omega)]; omega]
  simp -dsimp -implicitDefEqProofs (disch := omega) only [↓reduceIte, ↓gA, gB, refs, den, hasTy, Ty.cmp, Ty.depth, reduceCtorEq, Nat.reduceAdd, Nat.reduceSub, Nat.reduceMul, Nat.reduceEqDiff, Nat.reduceLT, Nat.reduceLeDiff, Nat.reduceMod, Nat.reduceDiv, Nat.reducePow, Nat.reduceBEq, Int.reduceToNat, Int.reduceLE, Int.reduceLT, Int.reduceEq, Int.reduceAdd, Int.reduceMul, Int.reduceSub, Int.reduceNeg, Int.reduceNe, Tryd.TS, Tryd.EV]
  first | (with_reducible refine HCall_mono (wcmpRef ((a % m + b % m) % 115792089237316195423570985008687907853269984665640564039457584007913129639936) m (Nat.mod_lt _ (by omega)) hm) ?_; rintro rs rfl) | (with_reducible refine HCallF_mono (wcmpRef ((a % m + b % m) % 115792089237316195423570985008687907853269984665640564039457584007913129639936) m (Nat.mod_lt _ (by omega)) hm) (by first | rfl | simp [flatR, RV.flat, RV.isD, Ty.flat]) ?_) | (refine SCall.mono (wcmpRef ((a % m + b % m) % 115792089237316195423570985008687907853269984665640564039457584007913129639936) m (Nat.mod_lt _ (by omega)) hm) ?_; rintro rs rfl)
  simp -dsimp -implicitDefEqProofs (disch := omega) only [↓reduceIte, ↓gA, gB, refs, den, hasTy, Ty.cmp, Ty.depth, reduceCtorEq, Nat.reduceAdd, Nat.reduceSub, Nat.reduceMul, Nat.reduceEqDiff, Nat.reduceLT, Nat.reduceLeDiff, Nat.reduceMod, Nat.reduceDiv, Nat.reducePow, Nat.reduceBEq, Int.reduceToNat, Int.reduceLE, Int.reduceLT, Int.reduceEq, Int.reduceAdd, Int.reduceMul, Int.reduceSub, Int.reduceNeg, Int.reduceNe, Tryd.TS, Tryd.EV]
  refine HIf_dec (a := ()) (b := ()) (fun hc => ?_) (fun hc => ?_)
  · simp -dsimp -implicitDefEqProofs (disch := omega) only [↓reduceIte, ↓gA, gB, refs, den, hasTy, Ty.cmp, Ty.depth, reduceCtorEq, Nat.reduceAdd, Nat.reduceSub, Nat.reduceMul, Nat.reduceEqDiff, Nat.reduceLT, Nat.reduceLeDiff, Nat.reduceMod, Nat.reduceDiv, Nat.reducePow, Nat.reduceBEq, Int.reduceToNat, Int.reduceLE, Int.reduceLT, Int.reduceEq, Int.reduceAdd, Int.reduceMul, Int.reduceSub, Int.reduceNeg, Int.reduceNe, Tryd.TS, Tryd.EV]
    first | (with_reducible refine HCall_mono (wsubRef ((a % m + b % m) % 115792089237316195423570985008687907853269984665640564039457584007913129639936) m (Nat.mod_lt _ (by omega)) hm) ?_; rintro rs rfl) | (with_reducible refine HCallF_mono (wsubRef ((a % m + b % m) % 115792089237316195423570985008687907853269984665640564039457584007913129639936) m (Nat.mod_lt _ (by omega)) hm) (by first | rfl | simp [flatR, RV.flat, RV.isD, Ty.flat]) ?_) | (refine SCall.mono (wsubRef ((a % m + b % m) % 115792089237316195423570985008687907853269984665640564039457584007913129639936) m (Nat.mod_lt _ (by omega)) hm) ?_; rintro rs rfl)
    simp -dsimp -implicitDefEqProofs (disch := omega) only [↓reduceIte, ↓gA, gB, refs, den, hasTy, Ty.cmp, Ty.depth, reduceCtorEq, Nat.reduceAdd, Nat.reduceSub, Nat.reduceMul, Nat.reduceEqDiff, Nat.reduceLT, Nat.reduceLeDiff, Nat.reduceMod, Nat.reduceDiv, Nat.reducePow, Nat.reduceBEq, Int.reduceToNat, Int.reduceLE, Int.reduceLT, Int.reduceEq, Int.reduceAdd, Int.reduceMul, Int.reduceSub, Int.reduceNeg, Int.reduceNe, Tryd.TS, Tryd.EV]
    have hge : m ≤ a % m + b % m := by
      split at hc
      · omega
      · split at hc <;> omega
    rw [show ((a % m + b % m) % 115792089237316195423570985008687907853269984665640564039457584007913129639936 + 115792089237316195423570985008687907853269984665640564039457584007913129639936 - m) % 115792089237316195423570985008687907853269984665640564039457584007913129639936 = (a + b) % m by rw [addmod_ge h0 (by omega)]; omega]
  · simp -dsimp -implicitDefEqProofs (disch := omega) only [↓reduceIte, ↓gA, gB, refs, den, hasTy, Ty.cmp, Ty.depth, reduceCtorEq, Nat.reduceAdd, Nat.reduceSub, Nat.reduceMul, Nat.reduceEqDiff, Nat.reduceLT, Nat.reduceLeDiff, Nat.reduceMod, Nat.reduceDiv, Nat.reducePow, Nat.reduceBEq, Int.reduceToNat, Int.reduceLE, Int.reduceLT, Int.reduceEq, Int.reduceAdd, Int.reduceMul, Int.reduceSub, Int.reduceNeg, Int.reduceNe, Tryd.TS, Tryd.EV]
    have hlt : a % m + b % m < m := by
      split at hc
      · omega
      · split at hc <;> omega
    rw [show (a % m + b % m) % 115792089237316195423570985008687907853269984665640564039457584007913129639936 = (a + b) % m by rw [addmod_lt hlt]; omega]
end Go.Proofs
/- Numbers of 256 bits: differences and products modulo a number. -/
namespace Go.Proofs
open Go.SE

theorem submod_ge {a b m : Nat} (h0 : 0 < m) (h : b % m ≤ a % m) : (a % m + m - b % m) % m = a % m - b % m := by
  have h1 := Nat.mod_lt a h0
  rw [Nat.mod_eq_sub_mod (by omega), Nat.mod_eq_of_lt (by omega)]; omega
theorem submod_lt {a b m : Nat} (h0 : 0 < m) (h : a % m < b % m) : (a % m + m - b % m) % m = a % m + m - b % m := by
  have h2 := Nat.mod_lt b h0
  rw [Nat.mod_eq_of_lt (by omega)]

set_option maxHeartbeats 2000000 in
theorem wsubmod (a b m : Nat) (ha : a < 115792089237316195423570985008687907853269984665640564039457584007913129639936) (hb : b < 115792089237316195423570985008687907853269984665640564039457584007913129639936) (hm : m < 115792089237316195423570985008687907853269984665640564039457584007913129639936) (h0 : 0 < m) : SCall Tryd.prog 89 [(.arr 4 (.int .u64), u256 a), (.arr 4 (.int .u64), u256 b), (.arr 4 (.int .u64), u256 m)] (fun rs => rs = [.d (.arr 4 (.int .u64)) (u256 ((a % m + m - b % m) % m))]) := by
  have ham : a % m < m := Nat.mod_lt _ h0
  have hbm : b % m < m := Nat.mod_lt _ h0
  have hma : a % m < 115792089237316195423570985008687907853269984665640564039457584007913129639936 := by omega
  have hmb : b % m < 115792089237316195423570985008687907853269984665640564039457584007913129639936 := by omega
  refine scall_intro (n := 27) (rl := [.cell 6 45]) (us := [45]) Tryd.hT Tryd.func89 rfl rfl rfl rfl rfl (Nat.le_of_ble_eq_true rfl) ?_
  intro w0 hL0
  simp -dsimp -implicitDefEqProofs (disch := omega) only [↓reduceIte, ↓gA, gB, refs, den, hasTy, Ty.cmp, Ty.depth, reduceCtorEq, Nat.reduceAdd, Nat.reduceSub, Nat.reduceMul, Nat.reduceEqDiff, Nat.reduceLT, Nat.reduceLeDiff, Nat.reduceMod, Nat.reduceDiv, Nat.reducePow, Nat.reduceBEq, Int.reduceToNat, Int.reduceLE, Int.reduceLT, Int.reduceEq, Int.reduceAdd, Int.reduceMul, Int.reduceSub, Int.reduceNeg, Int.reduceNe, Tryd.TS, Tryd.EV, rep4]
  refine sdrawM Tryd.hT (by kernel_rfl) [11] [2, 5, 6] (.alt 0 (.alt 1 (.alt 3 (.alt 4 (.alt 2 (.alt 5 (.alt 6 (.alt 7 (.alt 8 (.alt 9 (.alt 10 (.alt 11 (.alt 12 .nil .nil) .nil) .nil) .nil) .nil) .nil) .nil) .nil) .nil) .nil) .nil) .nil) .nil) ⟨27, [(3, .v (.ptr 0 [])), (4, .v (.ptr 1 [])), (5, .v (.ptr 2 [])), (6, .v (.ptr 3 [])), (7, .v (.ptr 4 [])), (8, .v (.d .bool (.b (decide (a % m < b % m)))))], [(0, ⟨.arr 4 (.int .u64), .d (.arr 4 (.int .u64)) (u256 a)⟩), (1, ⟨.arr 4 (.int .u64), .d (.arr 4 (.int .u64)) (u256 b)⟩), (2, ⟨.arr 4 (.int .u64), .d (.arr 4 (.int .u64)) (u256 m)⟩), (3, ⟨.arr 4 (.int .u64), .d (.arr 4 (.int .u64)) (.l [.n 0, .n 0, .n 0, .n 0])⟩), (4, ⟨.arr 4 (.int .u64), .d (.arr 4 (.int .u64)) (u256 ((a % m + 115792089237316195423570985008687907853269984665640564039457584007913129639936 - b % m) % 115792089237316195423570985008687907853269984665640564039457584007913129639936))⟩)], 5⟩ (by kernel_rfl) (by kernel_rfl) ?_ ?_
  · simp only [tr_alt, tr_nil, tr_nil', gK, ↓reduceIte, Nat.reduceEqDiff]
    simp -dsimp -implicitDefEqProofs (disch := omega) only [↓reduceIte, ↓gA, gB, refs, den, hasTy, Ty.cmp, Ty.depth, reduceCtorEq, Nat.reduceAdd, Nat.reduceSub, Nat.reduceMul, Nat.reduceEqDiff, Nat.reduceLT, Nat.reduceLeDiff, Nat.reduceMod, Nat.reduceDiv, Nat.reducePow, Nat.reduceBEq, Int.reduceToNat, Int.reduceLE, Int.reduceLT, Int.reduceEq, Int.reduceAdd, Int.reduceMul, Int.reduceSub, Int.reduceNeg, Int.reduceNe, Tryd.TS, Tryd.EV, rep4]
    repeat' (first
      | with_reducible refine And.intro ?_ ?_
      | (first | (with_reducible refine HCall_mono (wmod a m ha hm h0) ?_; rintro rs rfl) | (with_reducible refine HCallF_mono (wmod a m ha hm h0) (by first | rfl | simp [flatR, RV.flat, RV.isD, Ty.flat]) ?_)
         simp -dsimp -implicitDefEqProofs (disch := omega) only [↓reduceIte, ↓gA, gB, refs, den, hasTy, Ty.cmp, Ty.depth, reduceCtorEq, Nat.reduceAdd, Nat.reduceSub, Nat.reduceMul, Nat.reduceEqDiff, Nat.reduceLT, Nat.reduceLeDiff, Nat.reduceMod, Nat.reduceDiv, Nat.reducePow, Nat.reduceBEq, Int.reduceToNat, Int.reduceLE, Int.reduceLT, Int.reduceEq, Int.reduceAdd, Int.reduceMul, Int.reduceSub, Int.reduceNeg, Int.reduceNe, Tryd.TS, Tryd.EV, rep4])
      | (first | (with_reducible refine HCall_mono (wmod b m hb hm h0) ?_; rintro rs rfl) | (with_reducible refine HCallF_mono (wmod b m hb hm h0) (by first | rfl | simp [flatR, RV.flat, RV.isD, Ty.flat]) ?_)
         simp -dsimp -implicitDefEqProofs (disch := omega) only [↓reduceIte, ↓gA, gB, refs, den, hasTy, Ty.cmp, Ty.depth, reduceCtorEq, Nat.reduceAdd, Nat.reduceSub, Nat.reduceMul, Nat.reduceEqDiff, Nat.reduceLT, Nat.reduceLeDiff, Nat.reduceMod, Nat.reduceDiv, Nat.reducePow, Nat.reduceBEq, Int.reduceToNat, Int.reduceLE, Int.reduceLT, Int.reduceEq, Int.reduceAdd, Int.reduceMul, Int.reduceSub, Int.reduceNeg, Int.reduceNe, Tryd.TS, Tryd.EV, rep4])
      | (first | (with_reducible refine HCall_mono (wsub (a % m) (b % m) hma hmb) ?_; rintro rs rfl) | (with_reducible refine HCallF_mono (wsub (a % m) (b % m) hma hmb) (by first | rfl | simp [flatR, RV.flat, RV.isD, Ty.flat]) ?_)
         simp -dsimp -implicitDefEqProofs (disch := omega) only [↓reduceIte, ↓gA, gB, refs, den, hasTy, Ty.cmp, Ty.depth, reduceCtorEq, Nat.reduceAdd, Nat.reduceSub, Nat.reduceMul, Nat.reduceEqDiff, Nat.reduceLT, Nat.reduceLeDiff, Nat.reduceMod, Nat.reduceDiv, Nat.reducePow, Nat.reduceBEq, Int.reduceToNat, Int.reduceLE, Int.reduceLT, Int.reduceEq, Int.reduceAdd, Int.reduceMul, Int.reduceSub, Int.reduceNeg, Int.reduceNe, Tryd.TS, Tryd.EV, rep4])
      | with_reducible exact True.intro
      | (first | (refine sub_ren w0 hL0 [(0, 0), (1, 1), (2, 2), (3, 3), (4, 8)] rfl rfl ?_ rfl ?_ ?_; (focus (simp [keysLt]; done)); (focus (simp [renTm, Go.SE.look, renTV, renSV]; done)); (focus (simp [renOb, Go.SE.look, renSV]; done)))))
  simp -dsimp -implicitDefEqProofs (disch := omega) only [↓reduceIte, ↓gA, gB, refs, den, hasTy, Ty.cmp, Ty.depth, reduceCtorEq, Nat.reduceAdd, Nat.reduceSub, Nat.reduceMul, Nat.reduceEqDiff, Nat.reduceLT, Nat.reduceLeDiff, Nat.reduceMod, Nat.reduceDiv, Nat.reducePow, Nat.reduceBEq, Int.reduceToNat, Int.reduceLE, Int.reduceLT, Int.reduceEq, Int.reduceAdd, Int.reduceMul, Int.reduceSub, Int.reduceNeg, Int.reduceNe, Tryd.TS, Tryd.EV]
  refine HIf_dec (a := ()) (b := ()) (fun hc => ?_) (fun hc => ?_)
  · simp -dsimp -implicitDefEqProofs (disch := omega) only [↓reduceIte, ↓gA, gB, refs, den, hasTy, Ty.cmp, Ty.depth, reduceCtorEq, Nat.reduceAdd, Nat.reduceSub, Nat.reduceMul, Nat.reduceEqDiff, Nat.reduceLT, Nat.reduceLeDiff, Nat.reduceMod, Nat.reduceDiv, Nat.reducePow, Nat.reduceBEq, Int.reduceToNat, Int.reduceLE, Int.reduceLT, Int.reduceEq, Int.reduceAdd, Int.reduceMul, Int.reduceSub, Int.reduceNeg, Int.reduceNe, Tryd.TS, Tryd.EV]
    first | (with_reducible refine HCall_mono (wadd ((a % m + 115792089237316195423570985008687907853269984665640564039457584007913129639936 - b % m) % 115792089237316195423570985008687907853269984665640564039457584007913129639936) m (Nat.mod_lt _ (by omega)) hm) ?_; rintro rs rfl) | (with_reducible refine HCallF_mono (wadd ((a % m + 115792089237316195423570985008687907853269984665640564039457584007913129639936 - b % m) % 115792089237316195423570985008687907853269984665640564039457584007913129639936) m (Nat.mod_lt _ (by omega)) hm) (by first | rfl | simp [flatR, RV.flat, RV.isD, Ty.flat]) ?_) | (refine SCall.mono (wadd ((a % m + 115792089237316195423570985008687907853269984665640564039457584007913129639936 - b % m) % 115792089237316195423570985008687907853269984665640564039457584007913129639936) m (Nat.mod_lt _ (by omega)) hm) ?_; rintro rs rfl)
    simp -dsimp -implicitDefEqProofs (disch := omega) only [↓reduceIte, ↓gA, gB, refs, den, hasTy, Ty.cmp, Ty.depth, reduceCtorEq, Nat.reduceAdd, Nat.reduceSub, Nat.reduceMul, Nat.reduceEqDiff, Nat.reduceLT, Nat.reduceLeDiff, Nat.reduceMod, Nat.reduceDiv, Nat.reducePow, Nat.reduceBEq, Int.reduceToNat, Int.reduceLE, Int.reduceLT, Int.reduceEq, Int.reduceAdd, Int.reduceMul, Int.reduceSub, Int.reduceNeg, Int.reduceNe, Tryd.TS, Tryd.EV]
    rw [submod_lt h0 hc, show ((a % m + 115792089237316195423570985008687907853269984665640564039457584007913129639936 - b % m) % 115792089237316195423570985008687907853269984665640564039457584007913129639936 + m) % 115792089237316195423570985008687907853269984665640564039457584007913129639936 = a % m + m - b % m by omega]
  · simp -dsimp -implicitDefEqProofs (disch := omega) only [↓reduceIte, ↓gA, gB, refs, den, hasTy, Ty.cmp, Ty.depth, reduceCtorEq, Nat.reduceAdd, Nat.reduceSub, Nat.reduceMul, Nat.reduceEqDiff, Nat.reduceLT, Nat.reduceLeDiff, Nat.reduceMod, Nat.reduceDiv, Nat.reducePow, Nat.reduceBEq, Int.reduceToNat, Int.reduceLE, Int.reduceLT, Int.reduceEq, Int.reduceAdd, Int.reduceMul, Int.reduceSub, Int.reduceNeg, Int.reduceNe, Tryd.TS, Tryd.EV]
    rw [submod_ge h0 (by omega), show (a % m + 115792089237316195423570985008687907853269984665640564039457584007913129639936 - b % m) % 115792089237316195423570985008687907853269984665640564039457584007913129639936 = a % m - b % m by omega]

set_option maxHeartbeats 2000000 in
theorem wsubmodRef (a b m : Nat) (ha : a < 115792089237316195423570985008687907853269984665640564039457584007913129639936) (hb : b < 115792089237316195423570985008687907853269984665640564039457584007913129639936) (hm : m < 115792089237316195423570985008687907853269984665640564039457584007913129639936) (h0 : 0 < m) : SCall Tryd.prog 92 [(.arr 4 (.int .u64), u256 a), (.arr 4 (.int .u64), u256 b), (.arr 4 (.int .u64), u256 m)] (fun rs => rs = [.d (.arr 4 (.int .u64)) (u256 ((a % m + m - b % m) % m))]) := by
  have ham : a % m < m := Nat.mod_lt _ h0
  have hbm : b % m < m := Nat.mod_lt _ h0
  refine scall_intro (n := 32) (rl := [.cell 6 45]) (us := [45]) Tryd.hT Tryd.func92 rfl rfl rfl rfl rfl (Nat.le_of_ble_eq_true rfl) ?_
  intro w0 hL0
  simp -dsimp -implicitDefEqProofs (disch := omega) only [↓reduceIte, ↓gA, gB, refs, den, hasTy, Ty.cmp, Ty.depth, reduceCtorEq, Nat.reduceAdd, Nat.reduceSub, Nat.reduceMul, Nat.reduceEqDiff, Nat.reduceLT, Nat.reduceLeDiff, Nat.reduceMod, Nat.reduceDiv, Nat.reducePow, Nat.reduceBEq, Int.reduceToNat, Int.reduceLE, Int.reduceLT, Int.reduceEq, Int.reduceAdd, Int.reduceMul, Int.reduceSub, Int.reduceNeg, Int.reduceNe, Tryd.TS, Tryd.EV, rep4]
  first | (with_reducible refine HCall_mono (wzeroRef m hm) ?_; rintro rs rfl) | (with_reducible refine HCallF_mono (wzeroRef m hm) (by first | rfl | simp [flatR, RV.flat, RV.isD, Ty.flat]) ?_) | (refine SCall.mono (wzeroRef m hm) ?_; rintro rs rfl)
  simp -dsimp -implicitDefEqProofs (disch := omega) only [↓reduceIte, ↓gA, gB, refs, den, hasTy, Ty.cmp, Ty.depth, reduceCtorEq, Nat.reduceAdd, Nat.reduceSub, Nat.reduceMul, Nat.reduceEqDiff, Nat.reduceLT, Nat.reduceLeDiff, Nat.reduceMod, Nat.reduceDiv, Nat.reducePow, Nat.reduceBEq, Int.reduceToNat, Int.reduceLE, Int.reduceLT, Int.reduceEq, Int.reduceAdd, Int.reduceMul, Int.reduceSub, Int.reduceNeg, Int.reduceNe, Tryd.TS, Tryd.EV]
  refine HIf_dec (a := ()) (b := ()) (fun hz => ?_) (fun hz => ?_)
  · omega
  simp -dsimp -implicitDefEqProofs (disch := omega) only [↓reduceIte, ↓gA, gB, refs, den, hasTy, Ty.cmp, Ty.depth, reduceCtorEq, Nat.reduceAdd, Nat.reduceSub, Nat.reduceMul, Nat.reduceEqDiff, Nat.reduceLT, Nat.reduceLeDiff, Nat.reduceMod, Nat.reduceDiv, Nat.reducePow, Nat.reduceBEq, Int.reduceToNat, Int.reduceLE, Int.reduceLT, Int.reduceEq, Int.reduceAdd, Int.reduceMul, Int.reduceSub, Int.reduceNeg, Int.reduceNe, Tryd.TS, Tryd.EV]
  refine sdraw (id := 3) Tryd.hT (by kernel_rfl) [6, 7] [] [0, 1, 3, 4, 2, 5, 6, 7] (by kernel_rfl) (by kernel_rfl) (by kernel_rfl) ?_; simp only [gK, ↓reduceIte, Nat.reduceEqDiff]
  simp -dsimp -implicitDefEqProofs (disch := omega) only [↓reduceIte, ↓gA, gB, refs, den, hasTy, Ty.cmp, Ty.depth, reduceCtorEq, Nat.reduceAdd, Nat.reduceSub, Nat.reduceMul, Nat.reduceEqDiff, Nat.reduceLT, Nat.reduceLeDiff, Nat.reduceMod, Nat.reduceDiv, Nat.reducePow, Nat.reduceBEq, Int.reduceToNat, Int.reduceLE, Int.reduceLT, Int.reduceEq, Int.reduceAdd, Int.reduceMul, Int.reduceSub, Int.reduceNeg, Int.reduceNe, Tryd.TS, Tryd.EV]
  first | (with_reducible refine HCall_mono (wreduceRef a m ha hm h0) ?_; rintro rs rfl) | (with_reducible refine HCallF_mono (wreduceRef a m ha hm h0) (by first | rfl | simp [flatR, RV.flat, RV.isD, Ty.flat]) ?_) | (refine SCall.mono (wreduceRef a m ha hm h0) ?_; rintro rs rfl)
  simp -dsimp -implicitDefEqProofs (disch := omega) only [↓reduceIte, ↓gA, gB, refs, den, hasTy, Ty.cmp, Ty.depth, reduceCtorEq, Nat.reduceAdd, Nat.reduceSub, Nat.reduceMul, Nat.reduceEqDiff, Nat.reduceLT, Nat.reduceLeDiff, Nat.reduceMod, Nat.reduceDiv, Nat.reducePow, Nat.reduceBEq, Int.reduceToNat, Int.reduceLE, Int.reduceLT, Int.reduceEq, Int.reduceAdd, Int.reduceMul, Int.reduceSub, Int.reduceNeg, Int.reduceNe, Tryd.TS, Tryd.EV]
  first | (with_reducible refine HCall_mono (wreduceRef b m hb hm h0) ?_; rintro rs rfl) | (with_reducible refine HCallF_mono (wreduceRef b m hb hm h0) (by first | rfl | simp [flatR, RV.flat, RV.isD, Ty.flat]) ?_) | (refine SCall.mono (wreduceRef b m hb hm h0) ?_; rintro rs rfl)
  simp -dsimp -implicitDefEqProofs (disch := omega) only [↓reduceIte, ↓gA, gB, refs, den, hasTy, Ty.cmp, Ty.depth, reduceCtorEq, Nat.reduceAdd, Nat.reduceSub, Nat.reduceMul, Nat.reduceEqDiff, Nat.reduceLT, Nat.reduceLeDiff, Nat.reduceMod, Nat.reduceDiv, Nat.reducePow, Nat.reduceBEq, Int.reduceToNat, Int.reduceLE, Int.reduceLT, Int.reduceEq, Int.reduceAdd, Int.reduceMul, Int.reduceSub, Int.reduceNeg, Int.reduceNe, Tryd.TS, Tryd.EV]
  first | (with_reducible refine HCall_mono (wsubRef (a % m) (b % m) (by omega) (by omega)) ?_; rintro rs rfl) | (with_reducible refine HCallF_mono (wsubRef (a % m) (b % m) (by omega) (by omega)) (by first | rfl | simp [flatR, RV.flat, RV.isD, Ty.flat]) ?_) | (refine SCall.mono (wsubRef (a % m) (b % m) (by omega) (by omega)) ?_; rintro rs rfl)
  simp -dsimp -implicitDefEqProofs (disch := omega) only [↓reduceIte, ↓gA, gB, refs, den, hasTy, Ty.cmp, Ty.depth, reduceCtorEq, Nat.reduceAdd, Nat.reduceSub, Nat.reduceMul, Nat.reduceEqDiff, Nat.reduceLT, Nat.reduceLeDiff, Nat.reduceMod, Nat.reduceDiv, Nat.reducePow, Nat.reduceBEq, Int.reduceToNat, Int.reduceLE, Int.reduceLT, Int.reduceEq, Int.reduceAdd, Int.reduceMul, Int.reduceSub, Int.reduceNeg, Int.reduceNe, Tryd.TS, Tryd.EV]
  refine HIf_dec (a := ()) (b := ()) (fun hc => ?_) (fun hc => ?_)
  · simp -dsimp -implicitDefEqProofs (disch := omega) only [↓reduceIte, ↓gA, gB, refs, den, hasTy, Ty.cmp, Ty.depth, reduceCtorEq, Nat.reduceAdd, Nat.reduceSub, Nat.reduceMul, Nat.reduceEqDiff, Nat.reduceLT, Nat.reduceLeDiff, Nat.reduceMod, Nat.reduceDiv, Nat.reducePow, Nat.reduceBEq, Int.reduceToNat, Int.reduceLE, Int.reduceLT, Int.reduceEq, Int.reduceAdd, Int.reduceMul, Int.reduceSub, Int.reduceNeg, Int.reduceNe, Tryd.TS, Tryd.EV]
    first | (with_reducible refine HCall_mono (waddRef ((a % m + 115792089237316195423570985008687907853269984665640564039457584007913129639936 - b % m) % 115792089237316195423570985008687907853269984665640564039457584007913129639936) m (Nat.mod_lt _ (by omega)) hm) ?_; rintro rs rfl) | (with_reducible refine HCallF_mono (waddRef ((a % m + 115792089237316195423570985008687907853269984665640564039457584007913129639936 - b % m) % 115792089237316195423570985008687907853269984665640564039457584007913129639936) m (Nat.mod_lt _ (by omega)) hm) (by first | rfl | simp [flatR, RV.flat, RV.isD, Ty.flat]) ?_) | (refine SCall.mono (waddRef ((a % m + 115792089237316195423570985008687907853269984665640564039457584007913129639936 - b % m) % 115792089237316195423570985008687907853269984665640564039457584007913129639936) m (Nat.mod_lt _ (by omega)) hm) ?_; rintro rs rfl)
    simp -dsimp -implicitDefEqProofs (disch := omega) only [↓reduceIte, ↓gA, gB, refs, den, hasTy, Ty.cmp, Ty.depth, reduceCtorEq, Nat.reduceAdd, Nat.reduceSub, Nat.reduceMul, Nat.reduceEqDiff, Nat.reduceLT, Nat.reduceLeDiff, Nat.reduceMod, Nat.reduceDiv, Nat.reducePow, Nat.reduceBEq, Int.reduceToNat, Int.reduceLE, Int.reduceLT, Int.reduceEq, Int.reduceAdd, Int.reduceMul, Int.reduceSub, Int.reduceNeg, Int.reduceNe, Tryd.TS, Tryd.EV]
    rw [submod_lt h0 hc, show ((a % m + 115792089237316195423570985008687907853269984665640564039457584007913129639936 - b % m) % 115792089237316195423570985008687907853269984665640564039457584007913129639936 + m) % 115792089237316195423570985008687907853269984665640564039457584007913129639936 = a % m + m - b % m by omega]
  · simp -dsimp -implicitDefEqProofs (disch := omega) only [↓reduceIte, ↓gA, gB, refs, den, hasTy, Ty.cmp, Ty.depth, reduceCtorEq, Nat.reduceAdd, Nat.reduceSub, Nat.reduceMul, Nat.reduceEqDiff, Nat.reduceLT, Nat.reduceLeDiff, Nat.reduceMod, Nat.reduceDiv, Nat.reducePow, Nat.reduceBEq, Int.reduceToNat, Int.reduceLE, Int.reduceLT, Int.reduceEq, Int.reduceAdd, Int.reduceMul, Int.reduceSub, Int.reduceNeg, Int.reduceNe, Tryd.TS, Tryd.EV]
    rw [submod_ge h0 (by omega), show (a % m + 115792089237316195423570985008687907853269984665640564039457584007913129639936 - b % m) % 115792089237316195423570985008687907853269984665640564039457584007913129639936 = a % m - b % m by omega]

theorem mulmod_lt {a b m : Nat} (h0 : 0 < m) (hm : m < 115792089237316195423570985008687907853269984665640564039457584007913129639936) : a % m * (b % m) / 115792089237316195423570985008687907853269984665640564039457584007913129639936 < m := by
  have h1 := Nat.mod_lt a h0
  have h2 := Nat.mod_lt b h0
  refine Nat.div_lt_of_lt_mul ?_
  have : a % m * (b % m) ≤ a % m * m := Nat.mul_le_mul_left _ (Nat.le_of_lt h2)
  have h3 : a % m * m < 115792089237316195423570985008687907853269984665640564039457584007913129639936 * m := Nat.mul_lt_mul_of_pos_right (by omega) h0
  omega

set_option maxHeartbeats 2000000 in
theorem wmulmod (a b m : Nat) (ha : a < 115792089237316195423570985008687907853269984665640564039457584007913129639936) (hb : b < 115792089237316195423570985008687907853269984665640564039457584007913129639936) (hm : m < 115792089237316195423570985008687907853269984665640564039457584007913129639936) (h0 : 0 < m) : SCall Tryd.prog 78 [(.arr 4 (.int .u64), u256 a), (.arr 4 (.int .u64), u256 b), (.arr 4 (.int .u64), u256 m)] (fun rs => rs = [.d (.arr 4 (.int .u64)) (u256 (a * b % m))]) := by
  have ham : a % m < m := Nat.mod_lt _ h0
  have hbm : b % m < m := Nat.mod_lt _ h0
  have hma : a % m < 115792089237316195423570985008687907853269984665640564039457584007913129639936 := by omega
  have hmb : b % m < 115792089237316195423570985008687907853269984665640564039457584007913129639936 := by omega
  refine scall_intro (n := 31) (rl := [.cell 6 45]) (us := [45]) Tryd.hT Tryd.func78 rfl rfl rfl rfl rfl (Nat.le_of_ble_eq_true rfl) ?_
  intro w0 hL0
  simp -dsimp -implicitDefEqProofs (disch := omega) only [↓reduceIte, ↓gA, gB, refs, den, hasTy, Ty.cmp, Ty.depth, reduceCtorEq, Nat.reduceAdd, Nat.reduceSub, Nat.reduceMul, Nat.reduceEqDiff, Nat.reduceLT, Nat.reduceLeDiff, Nat.reduceMod, Nat.reduceDiv, Nat.reducePow, Nat.reduceBEq, Int.reduceToNat, Int.reduceLE, Int.reduceLT, Int.reduceEq, Int.reduceAdd, Int.reduceMul, Int.reduceSub, Int.reduceNeg, Int.reduceNe, Tryd.TS, Tryd.EV, rep4]
  refine sdrawM Tryd.hT (by kernel_rfl) [12, 13] [2, 5, 6] (.alt 0 (.alt 1 (.alt 3 (.alt 4 (.alt 2 (.alt 5 (.alt 6 (.alt 7 (.alt 8 (.alt 9 (.alt 10 (.alt 11 (.alt 12 (.alt 13 .nil .nil) .nil) .nil) (.alt 11 (.alt 10 (.alt 12 (.alt 13 .nil .nil) .nil) .nil) .nil)) .nil) .nil) .nil) .nil) .nil) .nil) .nil) .nil) .nil) .nil) ⟨31, [(3, .v (.ptr 0 [])), (4, .v (.ptr 1 [])), (5, .v (.ptr 2 [])), (6, .v (.ptr 3 [])), (7, .v (.ptr 4 [])), (8, .v (.ptr 5 []))], [(0, ⟨.arr 4 (.int .u64), .d (.arr 4 (.int .u64)) (u256 a)⟩), (1, ⟨.arr 4 (.int .u64), .d (.arr 4 (.int .u64)) (u256 b)⟩), (2, ⟨.arr 4 (.int .u64), .d (.arr 4 (.int .u64)) (u256 m)⟩), (3, ⟨.arr 4 (.int .u64), .d (.arr 4 (.int .u64)) (.l [.n 0, .n 0, .n 0, .n 0])⟩), (4, ⟨.arr 4 (.int .u64), .d (.arr 4 (.int .u64)) (u256 (a % m * (b % m) / 115792089237316195423570985008687907853269984665640564039457584007913129639936))⟩), (5, ⟨.arr 4 (.int .u64), .d (.arr 4 (.int .u64)) (u256 (a % m * (b % m) % 115792089237316195423570985008687907853269984665640564039457584007913129639936))⟩)], 6⟩ (by kernel_rfl) (by kernel_rfl) ?_ ?_
  · simp only [tr_alt, tr_nil, tr_nil', gK, ↓reduceIte, Nat.reduceEqDiff]
    simp -dsimp -implicitDefEqProofs (disch := omega) only [↓reduceIte, ↓gA, gB, refs, den, hasTy, Ty.cmp, Ty.depth, reduceCtorEq, Nat.reduceAdd, Nat.reduceSub, Nat.reduceMul, Nat.reduceEqDiff, Nat.reduceLT, Nat.reduceLeDiff, Nat.reduceMod, Nat.reduceDiv, Nat.reducePow, Nat.reduceBEq, Int.reduceToNat, Int.reduceLE, Int.reduceLT, Int.reduceEq, Int.reduceAdd, Int.reduceMul, Int.reduceSub, Int.reduceNeg, Int.reduceNe, Tryd.TS, Tryd.EV, rep4]
    repeat' (first
      | with_reducible refine And.intro ?_ ?_
      | (first | (with_reducible refine HCall_mono (wmod a m ha hm h0) ?_; rintro rs rfl) | (with_reducible refine HCallF_mono (wmod a m ha hm h0) (by first | rfl | simp [flatR, RV.flat, RV.isD, Ty.flat]) ?_)
         simp -dsimp -implicitDefEqProofs (disch := omega) only [↓reduceIte, ↓gA, gB, refs, den, hasTy, Ty.cmp, Ty.depth, reduceCtorEq, Nat.reduceAdd, Nat.reduceSub, Nat.reduceMul, Nat.reduceEqDiff, Nat.reduceLT, Nat.reduceLeDiff, Nat.reduceMod, Nat.reduceDiv, Nat.reducePow, Nat.reduceBEq, Int.reduceToNat, Int.reduceLE, Int.reduceLT, Int.reduceEq, Int.reduceAdd, Int.reduceMul, Int.reduceSub, Int.reduceNeg, Int.reduceNe, Tryd.TS, Tryd.EV, rep4])
      | (first | (with_reducible refine HCall_mono (wmod b m hb hm h0) ?_; rintro rs rfl) | (with_reducible refine HCallF_mono (wmod b m hb hm h0) (by first | rfl | simp [flatR, RV.flat, RV.isD, Ty.flat]) ?_)
         simp -dsimp -implicitDefEqProofs (disch := omega) only [↓reduceIte, ↓gA, gB, refs, den, hasTy, Ty.cmp, Ty.depth, reduceCtorEq, Nat.reduceAdd, Nat.reduceSub, Nat.reduceMul, Nat.reduceEqDiff, Nat.reduceLT, Nat.reduceLeDiff, Nat.reduceMod, Nat.reduceDiv, Nat.reducePow, Nat.reduceBEq, Int.reduceToNat, Int.reduceLE, Int.reduceLT, Int.reduceEq, Int.reduceAdd, Int.reduceMul, Int.reduceSub, Int.reduceNeg, Int.reduceNe, Tryd.TS, Tryd.EV, rep4])
      | (first | (with_reducible refine HCall_mono (wmul (a % m) (b % m) hma hmb) ?_; rintro rs rfl) | (with_reducible refine HCallF_mono (wmul (a % m) (b % m) hma hmb) (by first | rfl | simp [flatR, RV.flat, RV.isD, Ty.flat]) ?_)
         simp -dsimp -implicitDefEqProofs (disch := omega) only [↓reduceIte, ↓gA, gB, refs, den, hasTy, Ty.cmp, Ty.depth, reduceCtorEq, Nat.reduceAdd, Nat.reduceSub, Nat.reduceMul, Nat.reduceEqDiff, Nat.reduceLT, Nat.reduceLeDiff, Nat.reduceMod, Nat.reduceDiv, Nat.reducePow, Nat.reduceBEq, Int.reduceToNat, Int.reduceLE, Int.reduceLT, Int.reduceEq, Int.reduceAdd, Int.reduceMul, Int.reduceSub, Int.reduceNeg, Int.reduceNe, Tryd.TS, Tryd.EV, rep4])
      | with_reducible exact True.intro
      | (first | (refine sub_ren w0 hL0 [(0, 0), (1, 1), (2, 2), (3, 3), (4, 8), (5, 9)] rfl rfl ?_ rfl ?_ ?_; (focus (simp [keysLt]; done)); (focus (simp [renTm, Go.SE.look, renTV, renSV]; done)); (focus (simp [renOb, Go.SE.look, renSV]; done))) | (refine sub_ren w0 hL0 [(0, 0), (1, 1), (2, 2), (3, 3), (4, 9), (5, 8)] rfl rfl ?_ rfl ?_ ?_; (focus (simp [keysLt]; done)); (focus (simp [renTm, Go.SE.look, renTV, renSV]; done)); (focus (simp [renOb, Go.SE.look, renSV]; done)))))
  simp -dsimp -implicitDefEqProofs (disch := omega) only [↓reduceIte, ↓gA, gB, refs, den, hasTy, Ty.cmp, Ty.depth, reduceCtorEq, Nat.reduceAdd, Nat.reduceSub, Nat.reduceMul, Nat.reduceEqDiff, Nat.reduceLT, Nat.reduceLeDiff, Nat.reduceMod, Nat.reduceDiv, Nat.reducePow, Nat.reduceBEq, Int.reduceToNat, Int.reduceLE, Int.reduceLT, Int.reduceEq, Int.reduceAdd, Int.reduceMul, Int.reduceSub, Int.reduceNeg, Int.reduceNe, Tryd.TS, Tryd.EV, rep4]
  first | (with_reducible refine HCall_mono (wdiv (a % m * (b % m) / 115792089237316195423570985008687907853269984665640564039457584007913129639936) (a % m * (b % m) % 115792089237316195423570985008687907853269984665640564039457584007913129639936) m (mulmod_lt h0 hm) (Nat.mod_lt _ (by omega)) hm) ?_; rintro rs rfl) | (with_reducible refine HCallF_mono (wdiv (a % m * (b % m) / 115792089237316195423570985008687907853269984665640564039457584007913129639936) (a % m * (b % m) % 115792089237316195423570985008687907853269984665640564039457584007913129639936) m (mulmod_lt h0 hm) (Nat.mod_lt _ (by omega)) hm) (by first | rfl | simp [flatR, RV.flat, RV.isD, Ty.flat]) ?_) | (refine SCall.mono (wdiv (a % m * (b % m) / 115792089237316195423570985008687907853269984665640564039457584007913129639936) (a % m * (b % m) % 115792089237316195423570985008687907853269984665640564039457584007913129639936) m (mulmod_lt h0 hm) (Nat.mod_lt _ (by omega)) hm) ?_; rintro rs rfl)
  simp -dsimp -implicitDefEqProofs (disch := omega) only [↓reduceIte, ↓gA, gB, refs, den, hasTy, Ty.cmp, Ty.depth, reduceCtorEq, Nat.reduceAdd, Nat.reduceSub, Nat.reduceMul, Nat.reduceEqDiff, Nat.reduceLT, Nat.reduceLeDiff, Nat.reduceMod, Nat.reduceDiv, Nat.reducePow, Nat.reduceBEq, Int.reduceToNat, Int.reduceLE, Int.reduceLT, Int.reduceEq, Int.reduceAdd, Int.reduceMul, Int.reduceSub, Int.reduceNeg, Int.reduceNe, Tryd.TS, Tryd.EV]
  rw [Nat.mul_comm (a % m * (b % m) / 115792089237316195423570985008687907853269984665640564039457584007913129639936), Nat.div_add_mod, ← Nat.mul_mod]

set_option maxHeartbeats 2000000 in
theorem wmulmodRef (a b m : Nat) (ha : a < 115792089237316195423570985008687907853269984665640564039457584007913129639936) (hb : b < 115792089237316195423570985008687907853269984665640564039457584007913129639936) (hm : m < 115792089237316195423570985008687907853269984665640564039457584007913129639936) (h0 : 0 < m) : SCall Tryd.prog 90 [(.arr 4 (.int .u64), u256 a), (.arr 4 (.int .u64), u256 b), (.arr 4 (.int .u64), u256 m)] (fun rs => rs = [.d (.arr 4 (.int .u64)) (u256 (a * b % m))]) := by
  have ham : a % m < m := Nat.mod_lt _ h0
  have hbm : b % m < m := Nat.mod_lt _ h0
  have hma : a % m < 115792089237316195423570985008687907853269984665640564039457584007913129639936 := by omega
  have hmb : b % m < 115792089237316195423570985008687907853269984665640564039457584007913129639936 := by omega
  refine scall_intro (n := 34) (rl := [.cell 6 45]) (us := [45]) Tryd.hT Tryd.func90 rfl rfl rfl rfl rfl (Nat.le_of_ble_eq_true rfl) ?_
  intro w0 hL0
  simp -dsimp -implicitDefEqProofs (disch := omega) only [↓reduceIte, ↓gA, gB, refs, den, hasTy, Ty.cmp, Ty.depth, reduceCtorEq, Nat.reduceAdd, Nat.reduceSub, Nat.reduceMul, Nat.reduceEqDiff, Nat.reduceLT, Nat.reduceLeDiff, Nat.reduceMod, Nat.reduceDiv, Nat.reducePow, Nat.reduceBEq, Int.reduceToNat, Int.reduceLE, Int.reduceLT, Int.reduceEq, Int.reduceAdd, Int.reduceMul, Int.reduceSub, Int.reduceNeg, Int.reduceNe, Tryd.TS, Tryd.EV, rep4]
  first | (with_reducible refine HCall_mono (wzeroRef m hm) ?_; rintro rs rfl) | (with_reducible refine HCallF_mono (wzeroRef m hm) (by first | rfl | simp [flatR, RV.flat, RV.isD, Ty.flat]) ?_) | (refine SCall.mono (wzeroRef m hm) ?_; rintro rs rfl)
  simp -dsimp -implicitDefEqProofs (disch := omega) only [↓reduceIte, ↓gA, gB, refs, den, hasTy, Ty.cmp, Ty.depth, reduceCtorEq, Nat.reduceAdd, Nat.reduceSub, Nat.reduceMul, Nat.reduceEqDiff, Nat.reduceLT, Nat.reduceLeDiff, Nat.reduceMod, Nat.reduceDiv, Nat.reducePow, Nat.reduceBEq, Int.reduceToNat, Int.reduceLE, Int.reduceLT, Int.reduceEq, Int.reduceAdd, Int.reduceMul, Int.reduceSub, Int.reduceNeg, Int.reduceNe, Tryd.TS, Tryd.EV]
  refine HIf_dec (a := ()) (b := ()) (fun hz => ?_) (fun hz => ?_)
  · omega
  simp -dsimp -implicitDefEqProofs (disch := omega) only [↓reduceIte, ↓gA, gB, refs, den, hasTy, Ty.cmp, Ty.depth, reduceCtorEq, Nat.reduceAdd, Nat.reduceSub, Nat.reduceMul, Nat.reduceEqDiff, Nat.reduceLT, Nat.reduceLeDiff, Nat.reduceMod, Nat.reduceDiv, Nat.reducePow, Nat.reduceBEq, Int.reduceToNat, Int.reduceLE, Int.reduceLT, Int.reduceEq, Int.reduceAdd, Int.reduceMul, Int.reduceSub, Int.reduceNeg, Int.reduceNe, Tryd.TS, Tryd.EV]
  refine sdrawM Tryd.hT (by kernel_rfl) [12, 13] [2, 5, 6] (.alt 0 (.alt 1 (.alt 3 (.alt 4 (.alt 2 (.alt 5 (.alt 6 (.alt 7 (.alt 8 (.alt 9 (.alt 10 (.alt 11 (.alt 12 (.alt 13 .nil .nil) .nil) .nil) (.alt 11 (.alt 10 (.alt 12 (.alt 13 .nil .nil) .nil) .nil) .nil)) .nil) .nil) .nil) .nil) .nil) .nil) .nil) .nil) .nil) .nil) ⟨34, [(3, .v (.ptr 0 [])), (4, .v (.ptr 1 [])), (5, .v (.ptr 2 [])), (6, .v (.ptr 3 [])), (7, .v (.ptr 4 [])), (8, .v (.ptr 5 []))], [(0, ⟨.arr 4 (.int .u64), .d (.arr 4 (.int .u64)) (u256 a)⟩), (1, ⟨.arr 4 (.int .u64), .d (.arr 4 (.int .u64)) (u256 b)⟩), (2, ⟨.arr 4 (.int .u64), .d (.arr 4 (.int .u64)) (u256 m)⟩), (3, ⟨.arr 4 (.int .u64), .d (.arr 4 (.int .u64)) (.l [.n 0, .n 0, .n 0, .n 0])⟩), (4, ⟨.arr 4 (.int .u64), .d (.arr 4 (.int .u64)) (u256 (a % m * (b % m) / 115792089237316195423570985008687907853269984665640564039457584007913129639936))⟩), (5, ⟨.arr 4 (.int .u64), .d (.arr 4 (.int .u64)) (u256 (a % m * (b % m) % 115792089237316195423570985008687907853269984665640564039457584007913129639936))⟩)], 6⟩ (by kernel_rfl) (by kernel_rfl) ?_ ?_
  · simp only [tr_alt, tr_nil, tr_nil', gK, ↓reduceIte, Nat.reduceEqDiff]
    simp -dsimp -implicitDefEqProofs (disch := omega) only [↓reduceIte, ↓gA, gB, refs, den, hasTy, Ty.cmp, Ty.depth, reduceCtorEq, Nat.reduceAdd, Nat.reduceSub, Nat.reduceMul, Nat.reduceEqDiff, Nat.reduceLT, Nat.reduceLeDiff, Nat.reduceMod, Nat.reduceDiv, Nat.reducePow, Nat.reduceBEq, Int.reduceToNat, Int.reduceLE, Int.reduceLT, Int.reduceEq, Int.reduceAdd, Int.reduceMul, Int.reduceSub, Int.reduceNeg, Int.reduceNe, Tryd.TS, Tryd.EV, rep4]
    repeat' (first
      | with_reducible refine And.intro ?_ ?_
      | (first | (with_reducible refine HCall_mono (wreduceRef a m ha hm h0) ?_; rintro rs rfl) | (with_reducible refine HCallF_mono (wreduceRef a m ha hm h0) (by first | rfl | simp [flatR, RV.flat, RV.isD, Ty.flat]) ?_)
         simp -dsimp -implicitDefEqProofs (disch := omega) only [↓reduceIte, ↓gA, gB, refs, den, hasTy, Ty.cmp, Ty.depth, reduceCtorEq, Nat.reduceAdd, Nat.reduceSub, Nat.reduceMul, Nat.reduceEqDiff, Nat.reduceLT, Nat.reduceLeDiff, Nat.reduceMod, Nat.reduceDiv, Nat.reducePow, Nat.reduceBEq, Int.reduceToNat, Int.reduceLE, Int.reduceLT, Int.reduceEq, Int.reduceAdd, Int.reduceMul, Int.reduceSub, Int.reduceNeg, Int.reduceNe, Tryd.TS, Tryd.EV, rep4])
      | (first | (with_reducible refine HCall_mono (wreduceRef b m hb hm h0) ?_; rintro rs rfl) | (with_reducible refine HCallF_mono (wreduceRef b m hb hm h0) (by first | rfl | simp [flatR, RV.flat, RV.isD, Ty.flat]) ?_)
         simp -dsimp -implicitDefEqProofs (disch := omega) only [↓reduceIte, ↓gA, gB, refs, den, hasTy, Ty.cmp, Ty.depth, reduceCtorEq, Nat.reduceAdd, Nat.reduceSub, Nat.reduceMul, Nat.reduceEqDiff, Nat.reduceLT, Nat.reduceLeDiff, Nat.reduceMod, Nat.reduceDiv, Nat.reducePow, Nat.reduceBEq, Int.reduceToNat, Int.reduceLE, Int.reduceLT, Int.reduceEq, Int.reduceAdd, Int.reduceMul, Int.reduceSub, Int.reduceNeg, Int.reduceNe, Tryd.TS, Tryd.EV, rep4])
      | (first | (with_reducible refine HCall_mono (wmulRef (a % m) (b % m) hma hmb) ?_; rintro rs rfl) | (with_reducible refine HCallF_mono (wmulRef (a % m) (b % m) hma hmb) (by first | rfl | simp [flatR, RV.flat, RV.isD, Ty.flat]) ?_)
         simp -dsimp -implicitDefEqProofs (disch := omega) only [↓reduceIte, ↓gA, gB, refs, den, hasTy, Ty.cmp, Ty.depth, reduceCtorEq, Nat.reduceAdd, Nat.reduceSub, Nat.reduceMul, Nat.reduceEqDiff, Nat.reduceLT, Nat.reduceLeDiff, Nat.reduceMod, Nat.reduceDiv, Nat.reducePow, Nat.reduceBEq, Int.reduceToNat, Int.reduceLE, Int.reduceLT, Int.reduceEq, Int.reduceAdd, Int.reduceMul, Int.reduceSub, Int.reduceNeg, Int.reduceNe, Tryd.TS, Tryd.EV, rep4])
      | with_reducible exact True.intro
      | (first | (refine sub_ren w0 hL0 [(0, 0), (1, 1), (2, 2), (3, 3), (4, 9), (5, 10)] rfl rfl ?_ rfl ?_ ?_; (focus (simp [keysLt]; done)); (focus (simp [renTm, Go.SE.look, renTV, renSV]; done)); (focus (simp [renOb, Go.SE.look, renSV]; done))) | (refine sub_ren w0 hL0 [(0, 0), (1, 1), (2, 2), (3, 3), (4, 10), (5, 9)] rfl rfl ?_ rfl ?_ ?_; (focus (simp [keysLt]; done)); (focus (simp [renTm, Go.SE.look, renTV, renSV]; done)); (focus (simp [renOb, Go.SE.look, renSV]; done)))))
  simp -dsimp -implicitDefEqProofs (disch := omega) only [↓reduceIte, ↓gA, gB, refs, den, hasTy, Ty.cmp, Ty.depth, reduceCtorEq, Nat.reduceAdd, Nat.reduceSub, Nat.reduceMul, Nat.reduceEqDiff, Nat.reduceLT, Nat.reduceLeDiff, Nat.reduceMod, Nat.reduceDiv, Nat.reducePow, Nat.reduceBEq, Int.reduceToNat, Int.reduceLE, Int.reduceLT, Int.reduceEq, Int.reduceAdd, Int.reduceMul, Int.reduceSub, Int.reduceNeg, Int.reduceNe, Tryd.TS, Tryd.EV, rep4]
  first | (with_reducible refine HCall_mono (wdivRef (a % m * (b % m) / 115792089237316195423570985008687907853269984665640564039457584007913129639936) (a % m * (b % m) % 115792089237316195423570985008687907853269984665640564039457584007913129639936) m (mulmod_lt h0 hm) (Nat.mod_lt _ (by omega)) hm) ?_; rintro rs rfl) | (with_reducible refine HCallF_mono (wdivRef (a % m * (b % m) / 115792089237316195423570985008687907853269984665640564039457584007913129639936) (a % m * (b % m) % 115792089237316195423570985008687907853269984665640564039457584007913129639936) m (mulmod_lt h0 hm) (Nat.mod_lt _ (by omega)) hm) (by first | rfl | simp [flatR, RV.flat, RV.isD, Ty.flat]) ?_) | (refine SCall.mono (wdivRef (a % m * (b % m) / 115792089237316195423570985008687907853269984665640564039457584007913129639936) (a % m * (b % m) % 115792089237316195423570985008687907853269984665640564039457584007913129639936) m (mulmod_lt h0 hm) (Nat.mod_lt _ (by omega)) hm) ?_; rintro rs rfl)
  simp -dsimp -implicitDefEqProofs (disch := omega) only [↓reduceIte, ↓gA, gB, refs, den, hasTy, Ty.cmp, Ty.depth, reduceCtorEq, Nat.reduceAdd, Nat.reduceSub, Nat.reduceMul, Nat.reduceEqDiff, Nat.reduceLT, Nat.reduceLeDiff, Nat.reduceMod, Nat.reduceDiv, Nat.reducePow, Nat.reduceBEq, Int.reduceToNat, Int.reduceLE, Int.reduceLT, Int.reduceEq, Int.reduceAdd, Int.reduceMul, Int.reduceSub, Int.reduceNeg, Int.reduceNe, Tryd.TS, Tryd.EV]
  rw [Nat.mul_comm (a % m * (b % m) / 115792089237316195423570985008687907853269984665640564039457584007913129639936), Nat.div_add_mod, ← Nat.mul_mod]
end Go.Proofs
/- The group: modulus, order, products. -/
namespace Go.Proofs
open Go.SE

set_option maxHeartbeats 1000000 in
theorem gmodulus : SCall Tryd.prog 85 [] (fun rs => rs = [.d (.arr 4 (.int .u64)) (u256 115792089237316195423570985008687907853269984665640564039457584007913129603823)]) := by
  refine scall_intro (n := 3) (rl := [.cell 0 45]) (us := [45]) Tryd.hT Tryd.func85 rfl rfl rfl rfl rfl (Nat.le_of_ble_eq_true rfl) ?_
  intro w0 hL0
  simp -dsimp -implicitDefEqProofs (disch := omega) only [↓reduceIte, ↓gA, gB, refs, den, hasTy, Ty.cmp, Ty.depth, reduceCtorEq, Nat.reduceAdd, Nat.reduceSub, Nat.reduceMul, Nat.reduceEqDiff, Nat.reduceLT, Nat.reduceLeDiff, Nat.reduceMod, Nat.reduceDiv, Nat.reducePow, Nat.reduceBEq, Int.reduceToNat, Int.reduceLE, Int.reduceLT, Int.reduceEq, Int.reduceAdd, Int.reduceMul, Int.reduceSub, Int.reduceNeg, Int.reduceNe, Tryd.TS, Tryd.EV, rep4]
  first | (with_reducible refine HCall_mono (fromUint 36112 (by omega)) ?_; rintro rs rfl) | (with_reducible refine HCallF_mono (fromUint 36112 (by omega)) (by first | rfl | simp [flatR, RV.flat, RV.isD, Ty.flat]) ?_) | (refine SCall.mono (fromUint 36112 (by omega)) ?_; rintro rs rfl)
  simp -dsimp -implicitDefEqProofs (disch := omega) only [↓reduceIte, ↓gA, gB, refs, den, hasTy, Ty.cmp, Ty.depth, reduceCtorEq, Nat.reduceAdd, Nat.reduceSub, Nat.reduceMul, Nat.reduceEqDiff, Nat.reduceLT, Nat.reduceLeDiff, Nat.reduceMod, Nat.reduceDiv, Nat.reducePow, Nat.reduceBEq, Int.reduceToNat, Int.reduceLE, Int.reduceLT, Int.reduceEq, Int.reduceAdd, Int.reduceMul, Int.reduceSub, Int.reduceNeg, Int.reduceNe, Tryd.TS, Tryd.EV]
  first | (with_reducible refine HCall_mono (wnot 36112 (by omega)) ?_; rintro rs rfl) | (with_reducible refine HCallF_mono (wnot 36112 (by omega)) (by first | rfl | simp [flatR, RV.flat, RV.isD, Ty.flat]) ?_) | (refine SCall.mono (wnot 36112 (by omega)) ?_; rintro rs rfl)
  simp -dsimp -implicitDefEqProofs (disch := omega) only [↓reduceIte, ↓gA, gB, refs, den, hasTy, Ty.cmp, Ty.depth, reduceCtorEq, Nat.reduceAdd, Nat.reduceSub, Nat.reduceMul, Nat.reduceEqDiff, Nat.reduceLT, Nat.reduceLeDiff, Nat.reduceMod, Nat.reduceDiv, Nat.reducePow, Nat.reduceBEq, Int.reduceToNat, Int.reduceLE, Int.reduceLT, Int.reduceEq, Int.reduceAdd, Int.reduceMul, Int.reduceSub, Int.reduceNeg, Int.reduceNe, Tryd.TS, Tryd.EV]

set_option maxHeartbeats 1000000 in
theorem gmodulusRef : SCall Tryd.prog 84 [] (fun rs => rs = [.d (.arr 4 (.int .u64)) (u256 115792089237316195423570985008687907853269984665640564039457584007913129603823)]) := by
  refine scall_intro (n := 10) (rl := [.cell 0 45]) (us := [45]) Tryd.hT Tryd.func84 rfl rfl rfl rfl rfl (Nat.le_of_ble_eq_true rfl) ?_
  intro w0 hL0
  simp -dsimp -implicitDefEqProofs (disch := omega) only [↓reduceIte, ↓gA, gB, refs, den, hasTy, Ty.cmp, Ty.depth, reduceCtorEq, Nat.reduceAdd, Nat.reduceSub, Nat.reduceMul, Nat.reduceEqDiff, Nat.reduceLT, Nat.reduceLeDiff, Nat.reduceMod, Nat.reduceDiv, Nat.reducePow, Nat.reduceBEq, Int.reduceToNat, Int.reduceLE, Int.reduceLT, Int.reduceEq, Int.reduceAdd, Int.reduceMul, Int.reduceSub, Int.reduceNeg, Int.reduceNe, Tryd.TS, Tryd.EV, rep4]
  first | (with_reducible refine HCall_mono (fromUintRef 36113 (by omega)) ?_; rintro rs rfl) | (with_reducible refine HCallF_mono (fromUintRef 36113 (by omega)) (by first | rfl | simp [flatR, RV.flat, RV.isD, Ty.flat]) ?_) | (refine SCall.mono (fromUintRef 36113 (by omega)) ?_; rintro rs rfl)
  simp -dsimp -implicitDefEqProofs (disch := omega) only [↓reduceIte, ↓gA, gB, refs, den, hasTy, Ty.cmp, Ty.depth, reduceCtorEq, Nat.reduceAdd, Nat.reduceSub, Nat.reduceMul, Nat.reduceEqDiff, Nat.reduceLT, Nat.reduceLeDiff, Nat.reduceMod, Nat.reduceDiv, Nat.reducePow, Nat.reduceBEq, Int.reduceToNat, Int.reduceLE, Int.reduceLT, Int.reduceEq, Int.reduceAdd, Int.reduceMul, Int.reduceSub, Int.reduceNeg, Int.reduceNe, Tryd.TS, Tryd.EV, rep4, u256_zero]
  first | (with_reducible refine HCall_mono (wsubRef 0 36113 (by omega) (by omega)) ?_; rintro rs rfl) | (with_reducible refine HCallF_mono (wsubRef 0 36113 (by omega) (by omega)) (by first | rfl | simp [flatR, RV.flat, RV.isD, Ty.flat]) ?_) | (refine SCall.mono (wsubRef 0 36113 (by omega) (by omega)) ?_; rintro rs rfl)
  simp -dsimp -implicitDefEqProofs (disch := omega) only [↓reduceIte, ↓gA, gB, refs, den, hasTy, Ty.cmp, Ty.depth, reduceCtorEq, Nat.reduceAdd, Nat.reduceSub, Nat.reduceMul, Nat.reduceEqDiff, Nat.reduceLT, Nat.reduceLeDiff, Nat.reduceMod, Nat.reduceDiv, Nat.reducePow, Nat.reduceBEq, Int.reduceToNat, Int.reduceLE, Int.reduceLT, Int.reduceEq, Int.reduceAdd, Int.reduceMul, Int.reduceSub, Int.reduceNeg, Int.reduceNe, Tryd.TS, Tryd.EV]

set_option maxHeartbeats 1000000 in
theorem gorder : SCall Tryd.prog 76 [] (fun rs => rs = [.d (.arr 4 (.int .u64)) (u256 57896044618658097711785492504343953926634992332820282019728792003956564801911)]) := by
  refine scall_intro (n := 3) (rl := [.cell 0 45]) (us := [45]) Tryd.hT Tryd.func76 rfl rfl rfl rfl rfl (Nat.le_of_ble_eq_true rfl) ?_
  intro w0 hL0
  simp -dsimp -implicitDefEqProofs (disch := omega) only [↓reduceIte, ↓gA, gB, refs, den, hasTy, Ty.cmp, Ty.depth, reduceCtorEq, Nat.reduceAdd, Nat.reduceSub, Nat.reduceMul, Nat.reduceEqDiff, Nat.reduceLT, Nat.reduceLeDiff, Nat.reduceMod, Nat.reduceDiv, Nat.reducePow, Nat.reduceBEq, Int.reduceToNat, Int.reduceLE, Int.reduceLT, Int.reduceEq, Int.reduceAdd, Int.reduceMul, Int.reduceSub, Int.reduceNeg, Int.reduceNe, Tryd.TS, Tryd.EV, rep4]
  first | (with_reducible refine HCall_mono (gmodulus) ?_; rintro rs rfl) | (with_reducible refine HCallF_mono (gmodulus) (by first | rfl | simp [flatR, RV.flat, RV.isD, Ty.flat]) ?_) | (refine SCall.mono (gmodulus) ?_; rintro rs rfl)
  simp -dsimp -implicitDefEqProofs (disch := omega) only [↓reduceIte, ↓gA, gB, refs, den, hasTy, Ty.cmp, Ty.depth, reduceCtorEq, Nat.reduceAdd, Nat.reduceSub, Nat.reduceMul, Nat.reduceEqDiff, Nat.reduceLT, Nat.reduceLeDiff, Nat.reduceMod, Nat.reduceDiv, Nat.reducePow, Nat.reduceBEq, Int.reduceToNat, Int.reduceLE, Int.reduceLT, Int.reduceEq, Int.reduceAdd, Int.reduceMul, Int.reduceSub, Int.reduceNeg, Int.reduceNe, Tryd.TS, Tryd.EV]
  first | (with_reducible refine HCall_mono (wshr1 115792089237316195423570985008687907853269984665640564039457584007913129603823 (by omega)) ?_; rintro rs rfl) | (with_reducible refine HCallF_mono (wshr1 115792089237316195423570985008687907853269984665640564039457584007913129603823 (by omega)) (by first | rfl | simp [flatR, RV.flat, RV.isD, Ty.flat]) ?_) | (refine SCall.mono (wshr1 115792089237316195423570985008687907853269984665640564039457584007913129603823 (by omega)) ?_; rintro rs rfl)
  simp -dsimp -implicitDefEqProofs (disch := omega) only [↓reduceIte, ↓gA, gB, refs, den, hasTy, Ty.cmp, Ty.depth, reduceCtorEq, Nat.reduceAdd, Nat.reduceSub, Nat.reduceMul, Nat.reduceEqDiff, Nat.reduceLT, Nat.reduceLeDiff, Nat.reduceMod, Nat.reduceDiv, Nat.reducePow, Nat.reduceBEq, Int.reduceToNat, Int.reduceLE, Int.reduceLT, Int.reduceEq, Int.reduceAdd, Int.reduceMul, Int.reduceSub, Int.reduceNeg, Int.reduceNe, Tryd.TS, Tryd.EV]

theorem fold_lt_gen {hi lo M g : Nat} (hg : g < M) (h : 0 < hi) : g * hi + lo < M * hi + lo := by
  have := Nat.mul_lt_mul_of_pos_right hg h
  omega
theorem fold_mod_gen (hi lo M P g : Nat) (h : M = P + g) : (g * hi + lo) % P = (M * hi + lo) % P := by
  subst h
  rw [show (P + g) * hi + lo = g * hi + lo + P * hi by rw [Nat.add_mul]; omega, Nat.add_mul_mod_self_left]
theorem fold_lt {hi lo : Nat} (h : 0 < hi) : 36113 * hi + lo < 115792089237316195423570985008687907853269984665640564039457584007913129639936 * hi + lo := fold_lt_gen (by decide) h
theorem fold_mod (hi lo : Nat) : (36113 * hi + lo) % 115792089237316195423570985008687907853269984665640564039457584007913129603823 = (115792089237316195423570985008687907853269984665640564039457584007913129639936 * hi + lo) % 115792089237316195423570985008687907853269984665640564039457584007913129603823 := fold_mod_gen hi lo _ _ _ (by decide)

set_option maxHeartbeats 2000000 in
theorem gfold (hi0 lo0 : Nat) (hhi : hi0 < 115792089237316195423570985008687907853269984665640564039457584007913129639936) (hlo : lo0 < 115792089237316195423570985008687907853269984665640564039457584007913129639936) : SCall Tryd.prog 86 [(.arr 4 (.int .u64), u256 hi0), (.arr 4 (.int .u64), u256 lo0)] (fun rs => rs = [.d (.arr 4 (.int .u64)) (u256 ((115792089237316195423570985008687907853269984665640564039457584007913129639936 * hi0 + lo0) % 115792089237316195423570985008687907853269984665640564039457584007913129603823))]) := by
  refine scall_intro (n := 46) (rl := [.cell 4 45]) (us := [45]) Tryd.hT Tryd.func86 rfl rfl rfl rfl rfl (Nat.le_of_ble_eq_true rfl) ?_
  intro w0 hL0
  simp -dsimp -implicitDefEqProofs (disch := omega) only [↓reduceIte, ↓gA, gB, refs, den, hasTy, Ty.cmp, Ty.depth, reduceCtorEq, Nat.reduceAdd, Nat.reduceSub, Nat.reduceMul, Nat.reduceEqDiff, Nat.reduceLT, Nat.reduceLeDiff, Nat.reduceMod, Nat.reduceDiv, Nat.reducePow, Nat.reduceBEq, Int.reduceToNat, Int.reduceLE, Int.reduceLT, Int.reduceEq, Int.reduceAdd, Int.reduceMul, Int.reduceSub, Int.reduceNeg, Int.reduceNe, Tryd.TS, Tryd.EV, rep4]
  refine sloop Tryd.hT (α := Nat × Nat) (fun x => ⟨46, [(2, .v (.ptr 0 [])), (3, .v (.ptr 1 [])), (4, .v (.ptr 2 []))], [(0, ⟨.arr 4 (.int .u64), .d (.arr 4 (.int .u64)) (u256 x.1)⟩), (1, ⟨.arr 4 (.int .u64), .d (.arr 4 (.int .u64)) (u256 x.2)⟩), (2, ⟨.arr 4 (.int .u64), .d (.arr 4 (.int .u64)) (.l [.n 0, .n 0, .n 0, .n 0])⟩)], 3⟩) (fun x => x.1 < 115792089237316195423570985008687907853269984665640564039457584007913129639936 ∧ x.2 < 115792089237316195423570985008687907853269984665640564039457584007913129639936 ∧ (115792089237316195423570985008687907853269984665640564039457584007913129639936 * x.1 + x.2) % 115792089237316195423570985008687907853269984665640564039457584007913129603823 = (115792089237316195423570985008687907853269984665640564039457584007913129639936 * hi0 + lo0) % 115792089237316195423570985008687907853269984665640564039457584007913129603823) (fun x => 115792089237316195423570985008687907853269984665640564039457584007913129639936 * x.1 + x.2) (hi0, lo0) ?_ ⟨hhi, hlo, rfl⟩ ?_
  · refine sub_ren w0 hL0 [(0, 0), (1, 1), (2, 2)] rfl rfl (by simp [keysLt]) rfl ?_ ?_
    · simp [renTm, Go.SE.look, renTV, renSV]
    · simp [renOb, Go.SE.look, renSV]
  rintro ⟨hi, lo⟩ ⟨h1, h2, h3⟩
  simp only at h1 h2 h3
  simp -dsimp -implicitDefEqProofs (disch := omega) only [↓reduceIte, ↓gA, gB, refs, den, hasTy, Ty.cmp, Ty.depth, reduceCtorEq, Nat.reduceAdd, Nat.reduceSub, Nat.reduceMul, Nat.reduceEqDiff, Nat.reduceLT, Nat.reduceLeDiff, Nat.reduceMod, Nat.reduceDiv, Nat.reducePow, Nat.reduceBEq, Int.reduceToNat, Int.reduceLE, Int.reduceLT, Int.reduceEq, Int.reduceAdd, Int.reduceMul, Int.reduceSub, Int.reduceNeg, Int.reduceNe, Tryd.TS, Tryd.EV, rep4, u256_zero, u256_inj h1 (show 0 < 115792089237316195423570985008687907853269984665640564039457584007913129639936 by omega)]
  refine HIf_ndec (a := ()) (b := ()) (fun hz => ?_) (fun hz => ?_)
  · obtain ⟨h, l, hmul, hl, hd⟩ : ∃ h l : Nat, SCall Tryd.prog 87 [(.arr 4 (.int .u64), u256 hi), (.arr 4 (.int .u64), u256 36113)] (fun rs => rs = [.d (.arr 4 (.int .u64)) (u256 h), .d (.arr 4 (.int .u64)) (u256 l)]) ∧ l < 115792089237316195423570985008687907853269984665640564039457584007913129639936 ∧ 115792089237316195423570985008687907853269984665640564039457584007913129639936 * h + l = 36113 * hi := ⟨_, _, wmul hi 36113 h1 (by omega), Nat.mod_lt _ (by omega), (Nat.div_add_mod _ _).trans (Nat.mul_comm _ _)⟩
    have hf : SCall Tryd.prog 46 [(.int .u64, .n 36113)] (fun rs => rs = [.d (.arr 4 (.int .u64)) (u256 36113)]) := fromUint 36113 (by omega)
    have hf1 : SCall Tryd.prog 46 [(.int .u64, .n 1)] (fun rs => rs = [.d (.arr 4 (.int .u64)) (u256 1)]) := fromUint 1 (by omega)
    simp -dsimp -implicitDefEqProofs (disch := omega) only [↓reduceIte, ↓gA, gB, refs, den, hasTy, Ty.cmp, Ty.depth, reduceCtorEq, Nat.reduceAdd, Nat.reduceSub, Nat.reduceMul, Nat.reduceEqDiff, Nat.reduceLT, Nat.reduceLeDiff, Nat.reduceMod, Nat.reduceDiv, Nat.reducePow, Nat.reduceBEq, Int.reduceToNat, Int.reduceLE, Int.reduceLT, Int.reduceEq, Int.reduceAdd, Int.reduceMul, Int.reduceSub, Int.reduceNeg, Int.reduceNe, Tryd.TS, Tryd.EV, rep4]
    refine sdrawM Tryd.hT (by kernel_rfl) [8, 9] [1, 2] (.alt 0 (.alt 1 (.alt 2 (.alt 3 (.alt 4 (.alt 5 (.alt 6 (.alt 7 (.alt 8 (.alt 9 .nil .nil) .nil) .nil) (.alt 7 (.alt 6 (.alt 8 (.alt 9 .nil .nil) .nil) .nil) .nil)) .nil) .nil) .nil) .nil) .nil) .nil) ⟨46, [(2, .v (.ptr 0 [])), (3, .v (.ptr 1 [])), (4, .v (.ptr 2 [])), (5, .v (.ptr 3 [])), (6, .v (.ptr 4 []))], [(0, ⟨.arr 4 (.int .u64), .d (.arr 4 (.int .u64)) (u256 hi)⟩), (1, ⟨.arr 4 (.int .u64), .d (.arr 4 (.int .u64)) (u256 lo)⟩), (2, ⟨.arr 4 (.int .u64), .d (.arr 4 (.int .u64)) (.l [.n 0, .n 0, .n 0, .n 0])⟩), (3, ⟨.arr 4 (.int .u64), .d (.arr 4 (.int .u64)) (u256 h)⟩), (4, ⟨.arr 4 (.int .u64), .d (.arr 4 (.int .u64)) (u256 l)⟩)], 5⟩ (by kernel_rfl) (by kernel_rfl) ?_ ?_
    · simp only [tr_alt, tr_nil, tr_nil', gK, ↓reduceIte, Nat.reduceEqDiff]
      simp -dsimp -implicitDefEqProofs (disch := omega) only [↓reduceIte, ↓gA, gB, refs, den, hasTy, Ty.cmp, Ty.depth, reduceCtorEq, Nat.reduceAdd, Nat.reduceSub, Nat.reduceMul, Nat.reduceEqDiff, Nat.reduceLT, Nat.reduceLeDiff, Nat.reduceMod, Nat.reduceDiv, Nat.reducePow, Nat.reduceBEq, Int.reduceToNat, Int.reduceLE, Int.reduceLT, Int.reduceEq, Int.reduceAdd, Int.reduceMul, Int.reduceSub, Int.reduceNeg, Int.reduceNe, Tryd.TS, Tryd.EV, rep4]
      repeat' (first
        | with_reducible refine And.intro ?_ ?_
        | (first | (with_reducible refine HCall_mono (hf) ?_; rintro rs rfl) | (with_reducible refine HCallF_mono (hf) (by first | rfl | simp [flatR, RV.flat, RV.isD, Ty.flat]) ?_)
           simp -dsimp -implicitDefEqProofs (disch := omega) only [↓reduceIte, ↓gA, gB, refs, den, hasTy, Ty.cmp, Ty.depth, reduceCtorEq, Nat.reduceAdd, Nat.reduceSub, Nat.reduceMul, Nat.reduceEqDiff, Nat.reduceLT, Nat.reduceLeDiff, Nat.reduceMod, Nat.reduceDiv, Nat.reducePow, Nat.reduceBEq, Int.reduceToNat, Int.reduceLE, Int.reduceLT, Int.reduceEq, Int.reduceAdd, Int.reduceMul, Int.reduceSub, Int.reduceNeg, Int.reduceNe, Tryd.TS, Tryd.EV, rep4])
        | (first | (with_reducible refine HCall_mono (hmul) ?_; rintro rs rfl) | (with_reducible refine HCallF_mono (hmul) (by first | rfl | simp [flatR, RV.flat, RV.isD, Ty.flat]) ?_)
           simp -dsimp -implicitDefEqProofs (disch := omega) only [↓reduceIte, ↓gA, gB, refs, den, hasTy, Ty.cmp, Ty.depth, reduceCtorEq, Nat.reduceAdd, Nat.reduceSub, Nat.reduceMul, Nat.reduceEqDiff, Nat.reduceLT, Nat.reduceLeDiff, Nat.reduceMod, Nat.reduceDiv, Nat.reducePow, Nat.reduceBEq, Int.reduceToNat, Int.reduceLE, Int.reduceLT, Int.reduceEq, Int.reduceAdd, Int.reduceMul, Int.reduceSub, Int.reduceNeg, Int.reduceNe, Tryd.TS, Tryd.EV, rep4])
        | with_reducible exact True.intro
        | (first | (refine sub_ren w0 hL0 [(0, 0), (1, 1), (2, 2), (3, 6), (4, 7)] rfl rfl ?_ rfl ?_ ?_; (focus (simp [keysLt]; done)); (focus (simp [renTm, Go.SE.look, renTV, renSV]; done)); (focus (simp [renOb, Go.SE.look, renSV]; done))) | (refine sub_ren w0 hL0 [(0, 0), (1, 1), (2, 2), (3, 7), (4, 6)] rfl rfl ?_ rfl ?_ ?_; (focus (simp [keysLt]; done)); (focus (simp [renTm, Go.SE.look, renTV, renSV]; done)); (focus (simp [renOb, Go.SE.look, renSV]; done)))))
    simp -dsimp -implicitDefEqProofs (disch := omega) only [↓reduceIte, ↓gA, gB, refs, den, hasTy, Ty.cmp, Ty.depth, reduceCtorEq, Nat.reduceAdd, Nat.reduceSub, Nat.reduceMul, Nat.reduceEqDiff, Nat.reduceLT, Nat.reduceLeDiff, Nat.reduceMod, Nat.reduceDiv, Nat.reducePow, Nat.reduceBEq, Int.reduceToNat, Int.reduceLE, Int.reduceLT, Int.reduceEq, Int.reduceAdd, Int.reduceMul, Int.reduceSub, Int.reduceNeg, Int.reduceNe, Tryd.TS, Tryd.EV, rep4]
    first | (with_reducible refine HCall_mono (wadd lo l h2 hl) ?_; rintro rs rfl) | (with_reducible refine HCallF_mono (wadd lo l h2 hl) (by first | rfl | simp [flatR, RV.flat, RV.isD, Ty.flat]) ?_) | (refine SCall.mono (wadd lo l h2 hl) ?_; rintro rs rfl)
    simp -dsimp -implicitDefEqProofs (disch := omega) only [↓reduceIte, ↓gA, gB, refs, den, hasTy, Ty.cmp, Ty.depth, reduceCtorEq, Nat.reduceAdd, Nat.reduceSub, Nat.reduceMul, Nat.reduceEqDiff, Nat.reduceLT, Nat.reduceLeDiff, Nat.reduceMod, Nat.reduceDiv, Nat.reducePow, Nat.reduceBEq, Int.reduceToNat, Int.reduceLE, Int.reduceLT, Int.reduceEq, Int.reduceAdd, Int.reduceMul, Int.reduceSub, Int.reduceNeg, Int.reduceNe, Tryd.TS, Tryd.EV]
    have hlt := fold_lt (hi := hi) (lo := lo) (by omega)
    have hmd := fold_mod hi lo
    refine HIf_dec (a := ()) (b := ()) (fun hc => ?_) (fun hc => ?_)
    · simp -dsimp -implicitDefEqProofs (disch := omega) only [↓reduceIte, ↓gA, gB, refs, den, hasTy, Ty.cmp, Ty.depth, reduceCtorEq, Nat.reduceAdd, Nat.reduceSub, Nat.reduceMul, Nat.reduceEqDiff, Nat.reduceLT, Nat.reduceLeDiff, Nat.reduceMod, Nat.reduceDiv, Nat.reducePow, Nat.reduceBEq, Int.reduceToNat, Int.reduceLE, Int.reduceLT, Int.reduceEq, Int.reduceAdd, Int.reduceMul, Int.reduceSub, Int.reduceNeg, Int.reduceNe, Tryd.TS, Tryd.EV]
      refine sdraw (id := 5) Tryd.hT (by kernel_rfl) [6] [] [0, 1, 2, 3, 4, 5, 6] (by kernel_rfl) (by kernel_rfl) (by kernel_rfl) ?_; simp only [gK, ↓reduceIte, Nat.reduceEqDiff]
      simp -dsimp -implicitDefEqProofs (disch := omega) only [↓reduceIte, ↓gA, gB, refs, den, hasTy, Ty.cmp, Ty.depth, reduceCtorEq, Nat.reduceAdd, Nat.reduceSub, Nat.reduceMul, Nat.reduceEqDiff, Nat.reduceLT, Nat.reduceLeDiff, Nat.reduceMod, Nat.reduceDiv, Nat.reducePow, Nat.reduceBEq, Int.reduceToNat, Int.reduceLE, Int.reduceLT, Int.reduceEq, Int.reduceAdd, Int.reduceMul, Int.reduceSub, Int.reduceNeg, Int.reduceNe, Tryd.TS, Tryd.EV]
      first | (with_reducible refine HCall_mono (hf1) ?_; rintro rs rfl) | (with_reducible refine HCallF_mono (hf1) (by first | rfl | simp [flatR, RV.flat, RV.isD, Ty.flat]) ?_) | (refine SCall.mono (hf1) ?_; rintro rs rfl)
      simp -dsimp -implicitDefEqProofs (disch := omega) only [↓reduceIte, ↓gA, gB, refs, den, hasTy, Ty.cmp, Ty.depth, reduceCtorEq, Nat.reduceAdd, Nat.reduceSub, Nat.reduceMul, Nat.reduceEqDiff, Nat.reduceLT, Nat.reduceLeDiff, Nat.reduceMod, Nat.reduceDiv, Nat.reducePow, Nat.reduceBEq, Int.reduceToNat, Int.reduceLE, Int.reduceLT, Int.reduceEq, Int.reduceAdd, Int.reduceMul, Int.reduceSub, Int.reduceNeg, Int.reduceNe, Tryd.TS, Tryd.EV]
      first | (with_reducible refine HCall_mono (wadd h 1 (by omega) (by omega)) ?_; rintro rs rfl) | (with_reducible refine HCallF_mono (wadd h 1 (by omega) (by omega)) (by first | rfl | simp [flatR, RV.flat, RV.isD, Ty.flat]) ?_) | (refine SCall.mono (wadd h 1 (by omega) (by omega)) ?_; rintro rs rfl)
      rw [show (h + 1) % 115792089237316195423570985008687907853269984665640564039457584007913129639936 = h + 1 by omega]
      simp -dsimp -implicitDefEqProofs (disch := omega) only [↓reduceIte, ↓gA, gB, refs, den, hasTy, Ty.cmp, Ty.depth, reduceCtorEq, Nat.reduceAdd, Nat.reduceSub, Nat.reduceMul, Nat.reduceEqDiff, Nat.reduceLT, Nat.reduceLeDiff, Nat.reduceMod, Nat.reduceDiv, Nat.reducePow, Nat.reduceBEq, Int.reduceToNat, Int.reduceLE, Int.reduceLT, Int.reduceEq, Int.reduceAdd, Int.reduceMul, Int.reduceSub, Int.reduceNeg, Int.reduceNe, Tryd.TS, Tryd.EV]
      refine sdrawT Tryd.hT (by kernel_rfl) [] (.alt 0 (.alt 1 (.alt 2 (.alt 3 .nil .nil) .nil) (.alt 2 (.alt 1 (.alt 3 .nil .nil) .nil) .nil)) (.alt 1 (.alt 0 (.alt 2 (.alt 3 .nil .nil) .nil) .nil) .nil)) (by kernel_rfl) ?_; simp only [tr_alt, tr_nil, tr_nil', pickF, mem1, List.getElem?_toArray, List.getElem?_cons_zero, List.getElem?_cons_succ]
      simp -dsimp -implicitDefEqProofs (disch := omega) only [↓reduceIte, ↓gA, gB, refs, den, hasTy, Ty.cmp, Ty.depth, reduceCtorEq, Nat.reduceAdd, Nat.reduceSub, Nat.reduceMul, Nat.reduceEqDiff, Nat.reduceLT, Nat.reduceLeDiff, Nat.reduceMod, Nat.reduceDiv, Nat.reducePow, Nat.reduceBEq, Int.reduceToNat, Int.reduceLE, Int.reduceLT, Int.reduceEq, Int.reduceAdd, Int.reduceMul, Int.reduceSub, Int.reduceNeg, Int.reduceNe, Tryd.TS, Tryd.EV]
      have he : 115792089237316195423570985008687907853269984665640564039457584007913129639936 * (h + 1) + (lo + l) % 115792089237316195423570985008687907853269984665640564039457584007913129639936 = 36113 * hi + lo := by omega
      refine ⟨⟨?_, ?_⟩, ?_⟩
      all_goals
        refine ⟨(h + 1, (lo + l) % 115792089237316195423570985008687907853269984665640564039457584007913129639936), ⟨by show h + 1 < 115792089237316195423570985008687907853269984665640564039457584007913129639936; omega, Nat.mod_lt _ (by omega), (congrArg (· % 115792089237316195423570985008687907853269984665640564039457584007913129603823) he).trans (hmd.trans h3)⟩, by show 115792089237316195423570985008687907853269984665640564039457584007913129639936 * (h + 1) + (lo + l) % 115792089237316195423570985008687907853269984665640564039457584007913129639936 < 115792089237316195423570985008687907853269984665640564039457584007913129639936 * hi + lo; omega, ?_⟩
        first | (refine sub_ren w0 hL0 [(0, 0), (1, 1), (2, 2)] rfl rfl ?_ rfl ?_ ?_; (focus (simp [keysLt]; done)); (focus (simp [renTm, Go.SE.look, renTV, renSV]; done)); (focus (simp [renOb, Go.SE.look, renSV]; done)))
    · simp -dsimp -implicitDefEqProofs (disch := omega) only [↓reduceIte, ↓gA, gB, refs, den, hasTy, Ty.cmp, Ty.depth, reduceCtorEq, Nat.reduceAdd, Nat.reduceSub, Nat.reduceMul, Nat.reduceEqDiff, Nat.reduceLT, Nat.reduceLeDiff, Nat.reduceMod, Nat.reduceDiv, Nat.reducePow, Nat.reduceBEq, Int.reduceToNat, Int.reduceLE, Int.reduceLT, Int.reduceEq, Int.reduceAdd, Int.reduceMul, Int.reduceSub, Int.reduceNeg, Int.reduceNe, Tryd.TS, Tryd.EV]
      refine sdrawT Tryd.hT (by kernel_rfl) [] (.alt 0 (.alt 1 (.alt 2 (.alt 3 .nil .nil) .nil) (.alt 2 (.alt 1 (.alt 3 .nil .nil) .nil) .nil)) (.alt 1 (.alt 0 (.alt 2 (.alt 3 .nil .nil) .nil) .nil) .nil)) (by kernel_rfl) ?_; simp only [tr_alt, tr_nil, tr_nil', pickF, mem1, List.getElem?_toArray, List.getElem?_cons_zero, List.getElem?_cons_succ]
      simp -dsimp -implicitDefEqProofs (disch := omega) only [↓reduceIte, ↓gA, gB, refs, den, hasTy, Ty.cmp, Ty.depth, reduceCtorEq, Nat.reduceAdd, Nat.reduceSub, Nat.reduceMul, Nat.reduceEqDiff, Nat.reduceLT, Nat.reduceLeDiff, Nat.reduceMod, Nat.reduceDiv, Nat.reducePow, Nat.reduceBEq, Int.reduceToNat, Int.reduceLE, Int.reduceLT, Int.reduceEq, Int.reduceAdd, Int.reduceMul, Int.reduceSub, Int.reduceNeg, Int.reduceNe, Tryd.TS, Tryd.EV]
      have he : 115792089237316195423570985008687907853269984665640564039457584007913129639936 * h + (lo + l) % 115792089237316195423570985008687907853269984665640564039457584007913129639936 = 36113 * hi + lo := by omega
      refine ⟨⟨?_, ?_⟩, ?_⟩
      all_goals
        refine ⟨(h, (lo + l) % 115792089237316195423570985008687907853269984665640564039457584007913129639936), ⟨by show h < 115792089237316195423570985008687907853269984665640564039457584007913129639936; omega, Nat.mod_lt _ (by omega), (congrArg (· % 115792089237316195423570985008687907853269984665640564039457584007913129603823) he).trans (hmd.trans h3)⟩, by show 115792089237316195423570985008687907853269984665640564039457584007913129639936 * h + (lo + l) % 115792089237316195423570985008687907853269984665640564039457584007913129639936 < 115792089237316195423570985008687907853269984665640564039457584007913129639936 * hi + lo; omega, ?_⟩
        first | (refine sub_ren w0 hL0 [(0, 0), (1, 1), (2, 2)] rfl rfl ?_ rfl ?_ ?_; (focus (simp [keysLt]; done)); (focus (simp [renTm, Go.SE.look, renTV, renSV]; done)); (focus (simp [renOb, Go.SE.look, renSV]; done)))
  · have h0 : hi = 0 := by omega
    subst h0
    simp -dsimp -implicitDefEqProofs (disch := omega) only [↓reduceIte, ↓gA, gB, refs, den, hasTy, Ty.cmp, Ty.depth, reduceCtorEq, Nat.reduceAdd, Nat.reduceSub, Nat.reduceMul, Nat.reduceEqDiff, Nat.reduceLT, Nat.reduceLeDiff, Nat.reduceMod, Nat.reduceDiv, Nat.reducePow, Nat.reduceBEq, Int.reduceToNat, Int.reduceLE, Int.reduceLT, Int.reduceEq, Int.reduceAdd, Int.reduceMul, Int.reduceSub, Int.reduceNeg, Int.reduceNe, Tryd.TS, Tryd.EV]
    first | (with_reducible refine HCall_mono (gmodulus) ?_; rintro rs rfl) | (with_reducible refine HCallF_mono (gmodulus) (by first | rfl | simp [flatR, RV.flat, RV.isD, Ty.flat]) ?_) | (refine SCall.mono (gmodulus) ?_; rintro rs rfl)
    simp -dsimp -implicitDefEqProofs (disch := omega) only [↓reduceIte, ↓gA, gB, refs, den, hasTy, Ty.cmp, Ty.depth, reduceCtorEq, Nat.reduceAdd, Nat.reduceSub, Nat.reduceMul, Nat.reduceEqDiff, Nat.reduceLT, Nat.reduceLeDiff, Nat.reduceMod, Nat.reduceDiv, Nat.reducePow, Nat.reduceBEq, Int.reduceToNat, Int.reduceLE, Int.reduceLT, Int.reduceEq, Int.reduceAdd, Int.reduceMul, Int.reduceSub, Int.reduceNeg, Int.reduceNe, Tryd.TS, Tryd.EV]
    first | (with_reducible refine HCall_mono (wcmp lo 115792089237316195423570985008687907853269984665640564039457584007913129603823 h2 (by omega)) ?_; rintro rs rfl) | (with_reducible refine HCallF_mono (wcmp lo 115792089237316195423570985008687907853269984665640564039457584007913129603823 h2 (by omega)) (by first | rfl | simp [flatR, RV.flat, RV.isD, Ty.flat]) ?_) | (refine SCall.mono (wcmp lo 115792089237316195423570985008687907853269984665640564039457584007913129603823 h2 (by omega)) ?_; rintro rs rfl)
    simp -dsimp -implicitDefEqProofs (disch := omega) only [↓reduceIte, ↓gA, gB, refs, den, hasTy, Ty.cmp, Ty.depth, reduceCtorEq, Nat.reduceAdd, Nat.reduceSub, Nat.reduceMul, Nat.reduceEqDiff, Nat.reduceLT, Nat.reduceLeDiff, Nat.reduceMod, Nat.reduceDiv, Nat.reducePow, Nat.reduceBEq, Int.reduceToNat, Int.reduceLE, Int.reduceLT, Int.reduceEq, Int.reduceAdd, Int.reduceMul, Int.reduceSub, Int.reduceNeg, Int.reduceNe, Tryd.TS, Tryd.EV]
    rw [Nat.mul_zero, Nat.zero_add] at h3
    refine HIf_dec (a := ()) (b := ()) (fun hc => ?_) (fun hc => ?_)
    · have hge : 115792089237316195423570985008687907853269984665640564039457584007913129603823 ≤ lo := by
        split at hc
        · omega
        · split at hc <;> omega
      simp -dsimp -implicitDefEqProofs (disch := omega) only [↓reduceIte, ↓gA, gB, refs, den, hasTy, Ty.cmp, Ty.depth, reduceCtorEq, Nat.reduceAdd, Nat.reduceSub, Nat.reduceMul, Nat.reduceEqDiff, Nat.reduceLT, Nat.reduceLeDiff, Nat.reduceMod, Nat.reduceDiv, Nat.reducePow, Nat.reduceBEq, Int.reduceToNat, Int.reduceLE, Int.reduceLT, Int.reduceEq, Int.reduceAdd, Int.reduceMul, Int.reduceSub, Int.reduceNeg, Int.reduceNe, Tryd.TS, Tryd.EV]
      first | (with_reducible refine HCall_mono (wsub lo 115792089237316195423570985008687907853269984665640564039457584007913129603823 h2 (by omega)) ?_; rintro rs rfl) | (with_reducible refine HCallF_mono (wsub lo 115792089237316195423570985008687907853269984665640564039457584007913129603823 h2 (by omega)) (by first | rfl | simp [flatR, RV.flat, RV.isD, Ty.flat]) ?_) | (refine SCall.mono (wsub lo 115792089237316195423570985008687907853269984665640564039457584007913129603823 h2 (by omega)) ?_; rintro rs rfl)
      simp -dsimp -implicitDefEqProofs (disch := omega) only [↓reduceIte, ↓gA, gB, refs, den, hasTy, Ty.cmp, Ty.depth, reduceCtorEq, Nat.reduceAdd, Nat.reduceSub, Nat.reduceMul, Nat.reduceEqDiff, Nat.reduceLT, Nat.reduceLeDiff, Nat.reduceMod, Nat.reduceDiv, Nat.reducePow, Nat.reduceBEq, Int.reduceToNat, Int.reduceLE, Int.reduceLT, Int.reduceEq, Int.reduceAdd, Int.reduceMul, Int.reduceSub, Int.reduceNeg, Int.reduceNe, Tryd.TS, Tryd.EV]
      rw [← h3, show (lo + 115792089237316195423570985008687907853269984665640564039457584007913129639936 - 115792089237316195423570985008687907853269984665640564039457584007913129603823) % 115792089237316195423570985008687907853269984665640564039457584007913129639936 = lo - 115792089237316195423570985008687907853269984665640564039457584007913129603823 by omega, Nat.mod_eq_sub_mod hge, Nat.mod_eq_of_lt (a := lo - 115792089237316195423570985008687907853269984665640564039457584007913129603823) (by omega)]
    · have hlt : lo < 115792089237316195423570985008687907853269984665640564039457584007913129603823 := by
        split at hc
        · assumption
        · split at hc <;> omega
      simp -dsimp -implicitDefEqProofs (disch := omega) only [↓reduceIte, ↓gA, gB, refs, den, hasTy, Ty.cmp, Ty.depth, reduceCtorEq, Nat.reduceAdd, Nat.reduceSub, Nat.reduceMul, Nat.reduceEqDiff, Nat.reduceLT, Nat.reduceLeDiff, Nat.reduceMod, Nat.reduceDiv, Nat.reducePow, Nat.reduceBEq, Int.reduceToNat, Int.reduceLE, Int.reduceLT, Int.reduceEq, Int.reduceAdd, Int.reduceMul, Int.reduceSub, Int.reduceNeg, Int.reduceNe, Tryd.TS, Tryd.EV]
      rw [← h3, Nat.mod_eq_of_lt hlt]
end Go.Proofs
/- The group: powers. -/
namespace Go.Proofs
open Go.SE

set_option maxHeartbeats 1000000 in
theorem gmul (a b : Nat) (ha : a < 115792089237316195423570985008687907853269984665640564039457584007913129639936) (hb : b < 115792089237316195423570985008687907853269984665640564039457584007913129639936) : SCall Tryd.prog 49 [(.arr 4 (.int .u64), u256 a), (.arr 4 (.int .u64), u256 b)] (fun rs => rs = [.d (.arr 4 (.int .u64)) (u256 (a * b % 115792089237316195423570985008687907853269984665640564039457584007913129603823))]) := by
  obtain ⟨h, l, hmul, hh, hl, hd⟩ : ∃ h l : Nat, SCall Tryd.prog 87 [(.arr 4 (.int .u64), u256 a), (.arr 4 (.int .u64), u256 b)] (fun rs => rs = [.d (.arr 4 (.int .u64)) (u256 h), .d (.arr 4 (.int .u64)) (u256 l)]) ∧ h < 115792089237316195423570985008687907853269984665640564039457584007913129639936 ∧ l < 115792089237316195423570985008687907853269984665640564039457584007913129639936 ∧ 115792089237316195423570985008687907853269984665640564039457584007913129639936 * h + l = a * b := ⟨_, _, wmul a b ha hb, Nat.div_lt_of_lt_mul (Nat.mul_lt_mul'' ha hb), Nat.mod_lt _ (by omega), Nat.div_add_mod _ _⟩
  refine scall_intro (n := 11) (rl := [.cell 4 45]) (us := [45]) Tryd.hT Tryd.func49 rfl rfl rfl rfl rfl (Nat.le_of_ble_eq_true rfl) ?_
  intro w0 hL0
  simp -dsimp -implicitDefEqProofs (disch := omega) only [↓reduceIte, ↓gA, gB, refs, den, hasTy, Ty.cmp, Ty.depth, reduceCtorEq, Nat.reduceAdd, Nat.reduceSub, Nat.reduceMul, Nat.reduceEqDiff, Nat.reduceLT, Nat.reduceLeDiff, Nat.reduceMod, Nat.reduceDiv, Nat.reducePow, Nat.reduceBEq, Int.reduceToNat, Int.reduceLE, Int.reduceLT, Int.reduceEq, Int.reduceAdd, Int.reduceMul, Int.reduceSub, Int.reduceNeg, Int.reduceNe, Tryd.TS, Tryd.EV, rep4]
  first | (with_reducible refine HCall_mono (hmul) ?_; rintro rs rfl) | (with_reducible refine HCallF_mono (hmul) (by first | rfl | simp [flatR, RV.flat, RV.isD, Ty.flat]) ?_) | (refine SCall.mono (hmul) ?_; rintro rs rfl)
  simp -dsimp -implicitDefEqProofs (disch := omega) only [↓reduceIte, ↓gA, gB, refs, den, hasTy, Ty.cmp, Ty.depth, reduceCtorEq, Nat.reduceAdd, Nat.reduceSub, Nat.reduceMul, Nat.reduceEqDiff, Nat.reduceLT, Nat.reduceLeDiff, Nat.reduceMod, Nat.reduceDiv, Nat.reducePow, Nat.reduceBEq, Int.reduceToNat, Int.reduceLE, Int.reduceLT, Int.reduceEq, Int.reduceAdd, Int.reduceMul, Int.reduceSub, Int.reduceNeg, Int.reduceNe, Tryd.TS, Tryd.EV]
  first | (with_reducible refine HCall_mono (gfold h l hh hl) ?_; rintro rs rfl) | (with_reducible refine HCallF_mono (gfold h l hh hl) (by first | rfl | simp [flatR, RV.flat, RV.isD, Ty.flat]) ?_) | (refine SCall.mono (gfold h l hh hl) ?_; rintro rs rfl)
  simp -dsimp -implicitDefEqProofs (disch := omega) only [↓reduceIte, ↓gA, gB, refs, den, hasTy, Ty.cmp, Ty.depth, reduceCtorEq, Nat.reduceAdd, Nat.reduceSub, Nat.reduceMul, Nat.reduceEqDiff, Nat.reduceLT, Nat.reduceLeDiff, Nat.reduceMod, Nat.reduceDiv, Nat.reducePow, Nat.reduceBEq, Int.reduceToNat, Int.reduceLE, Int.reduceLT, Int.reduceEq, Int.reduceAdd, Int.reduceMul, Int.reduceSub, Int.reduceNeg, Int.reduceNe, Tryd.TS, Tryd.EV]
  rw [hd]

theorem bits_mod {e i : Nat} : e % 2 ^ (i + 1) = e % 2 ^ i + 2 ^ i * (e / 2 ^ i % 2) := by rw [Nat.pow_succ, Nat.mod_mul]
theorem pow_bits {a e i P x c : Nat} (hx : x % P = a ^ (e % 2 ^ i) % P) (hc : c % P = a ^ 2 ^ i % P) (hb : e / 2 ^ i % 2 = 1) : x * c % P = a ^ (e % 2 ^ (i + 1)) % P := by
  rw [bits_mod, hb, Nat.mul_one, Nat.pow_add, Nat.mul_mod, hx, hc, ← Nat.mul_mod]
theorem pow_nobit {a e i P x : Nat} (hx : x % P = a ^ (e % 2 ^ i) % P) (hb : ¬ e / 2 ^ i % 2 = 1) : x % P = a ^ (e % 2 ^ (i + 1)) % P := by
  rw [bits_mod, show e / 2 ^ i % 2 = 0 by generalize e / 2 ^ i = q at *; omega, Nat.mul_zero, Nat.add_zero, hx]
theorem sq_bits {a i P c : Nat} (hc : c % P = a ^ 2 ^ i % P) : c * c % P = a ^ 2 ^ (i + 1) % P := by
  rw [Nat.mul_mod, hc, ← Nat.mul_mod, ← Nat.pow_add, Nat.pow_succ, Nat.mul_two]

set_option maxHeartbeats 2000000 in
theorem gexp (a e : Nat) (ha : a < 115792089237316195423570985008687907853269984665640564039457584007913129639936) (he : e < 115792089237316195423570985008687907853269984665640564039457584007913129639936) : SCall Tryd.prog 50 [(.arr 4 (.int .u64), u256 a), (.arr 4 (.int .u64), u256 e)] (fun rs => rs = [.d (.arr 4 (.int .u64)) (u256 (a ^ e % 115792089237316195423570985008687907853269984665640564039457584007913129603823))]) := by
  have hf1 : SCall Tryd.prog 46 [(.int .u64, .n 1)] (fun rs => rs = [.d (.arr 4 (.int .u64)) (u256 1)]) := fromUint 1 (by omega)
  have hbl := bl_le (show e < 2 ^ 256 from he)
  refine scall_intro (n := 30) (rl := [.cell 4 45]) (us := [45]) Tryd.hT Tryd.func50 rfl rfl rfl rfl rfl (Nat.le_of_ble_eq_true rfl) ?_
  intro w0 hL0
  simp -dsimp -implicitDefEqProofs (disch := omega) only [↓reduceIte, ↓gA, gB, refs, den, hasTy, Ty.cmp, Ty.depth, reduceCtorEq, Nat.reduceAdd, Nat.reduceSub, Nat.reduceMul, Nat.reduceEqDiff, Nat.reduceLT, Nat.reduceLeDiff, Nat.reduceMod, Nat.reduceDiv, Nat.reducePow, Nat.reduceBEq, Int.reduceToNat, Int.reduceLE, Int.reduceLT, Int.reduceEq, Int.reduceAdd, Int.reduceMul, Int.reduceSub, Int.reduceNeg, Int.reduceNe, Tryd.TS, Tryd.EV, rep4]
  first | (with_reducible refine HCall_mono (hf1) ?_; rintro rs rfl) | (with_reducible refine HCallF_mono (hf1) (by first | rfl | simp [flatR, RV.flat, RV.isD, Ty.flat]) ?_) | (refine SCall.mono (hf1) ?_; rintro rs rfl)
  simp -dsimp -implicitDefEqProofs (disch := omega) only [↓reduceIte, ↓gA, gB, refs, den, hasTy, Ty.cmp, Ty.depth, reduceCtorEq, Nat.reduceAdd, Nat.reduceSub, Nat.reduceMul, Nat.reduceEqDiff, Nat.reduceLT, Nat.reduceLeDiff, Nat.reduceMod, Nat.reduceDiv, Nat.reducePow, Nat.reduceBEq, Int.reduceToNat, Int.reduceLE, Int.reduceLT, Int.reduceEq, Int.reduceAdd, Int.reduceMul, Int.reduceSub, Int.reduceNeg, Int.reduceNe, Tryd.TS, Tryd.EV]
  first | (with_reducible refine HCall_mono (wlen e he) ?_; rintro rs rfl) | (with_reducible refine HCallF_mono (wlen e he) (by first | rfl | simp [flatR, RV.flat, RV.isD, Ty.flat]) ?_) | (refine SCall.mono (wlen e he) ?_; rintro rs rfl)
  simp -dsimp -implicitDefEqProofs (disch := omega) only [↓reduceIte, ↓gA, gB, refs, den, hasTy, Ty.cmp, Ty.depth, reduceCtorEq, Nat.reduceAdd, Nat.reduceSub, Nat.reduceMul, Nat.reduceEqDiff, Nat.reduceLT, Nat.reduceLeDiff, Nat.reduceMod, Nat.reduceDiv, Nat.reducePow, Nat.reduceBEq, Int.reduceToNat, Int.reduceLE, Int.reduceLT, Int.reduceEq, Int.reduceAdd, Int.reduceMul, Int.reduceSub, Int.reduceNeg, Int.reduceNe, Tryd.TS, Tryd.EV]
  refine sloop Tryd.hT (α := Nat × Nat × Nat) (fun x => ⟨30, [(2, .v (.ptr 0 [])), (3, .v (.ptr 1 [])), (4, .v (.ptr 2 [])), (5, .v (.ptr 3 [])), (9, .v (.d (.int .i64) (.n (bl e)))), (10, .v (.d (.int .i64) (.n x.1)))], [(0, ⟨.arr 4 (.int .u64), .d (.arr 4 (.int .u64)) (u256 x.2.2)⟩), (1, ⟨.arr 4 (.int .u64), .d (.arr 4 (.int .u64)) (u256 e)⟩), (2, ⟨.arr 4 (.int .u64), .d (.arr 4 (.int .u64)) (.l [.n 0, .n 0, .n 0, .n 0])⟩), (3, ⟨.arr 4 (.int .u64), .d (.arr 4 (.int .u64)) (u256 x.2.1)⟩)], 4⟩) (fun x => x.1 ≤ bl e ∧ x.2.1 < 115792089237316195423570985008687907853269984665640564039457584007913129603823 ∧ x.2.2 < 115792089237316195423570985008687907853269984665640564039457584007913129639936 ∧ x.2.1 % 115792089237316195423570985008687907853269984665640564039457584007913129603823 = a ^ (e % 2 ^ x.1) % 115792089237316195423570985008687907853269984665640564039457584007913129603823 ∧ x.2.2 % 115792089237316195423570985008687907853269984665640564039457584007913129603823 = a ^ 2 ^ x.1 % 115792089237316195423570985008687907853269984665640564039457584007913129603823) (fun x => bl e - x.1) (0, 1, a) ?_ ⟨Nat.zero_le _, by show 1 < 115792089237316195423570985008687907853269984665640564039457584007913129603823; omega, ha, by rw [Nat.pow_zero, Nat.mod_one, Nat.pow_zero], by rw [Nat.pow_zero, Nat.pow_one]⟩ ?_
  · first | (refine sub_ren w0 hL0 [(0, 0), (1, 1), (2, 2), (3, 3)] rfl rfl ?_ rfl ?_ ?_; (focus (simp [keysLt]; done)); (focus (simp [renTm, Go.SE.look, renTV, renSV]; done)); (focus (simp [renOb, Go.SE.look, renSV]; done))) | (refine sub_ren w0 hL0 [(0, 0), (1, 1), (2, 2), (3, 4)] rfl rfl ?_ rfl ?_ ?_; (focus (simp [keysLt]; done)); (focus (simp [renTm, Go.SE.look, renTV, renSV]; done)); (focus (simp [renOb, Go.SE.look, renSV]; done)))
  rintro ⟨i, x, c⟩ ⟨hi, hx, hc, hX, hC⟩
  simp only at hi hx hc hX hC
  simp -dsimp -implicitDefEqProofs (disch := omega) only [↓reduceIte, ↓gA, gB, refs, den, hasTy, Ty.cmp, Ty.depth, reduceCtorEq, Nat.reduceAdd, Nat.reduceSub, Nat.reduceMul, Nat.reduceEqDiff, Nat.reduceLT, Nat.reduceLeDiff, Nat.reduceMod, Nat.reduceDiv, Nat.reducePow, Nat.reduceBEq, Int.reduceToNat, Int.reduceLE, Int.reduceLT, Int.reduceEq, Int.reduceAdd, Int.reduceMul, Int.reduceSub, Int.reduceNeg, Int.reduceNe, Tryd.TS, Tryd.EV]
  refine HIf_dec (a := ()) (b := ()) (fun h => ?_) (fun h => ?_)
  · have hi4 : i / 64 < 4 := by omega
    simp -dsimp -implicitDefEqProofs (disch := omega) only [↓reduceIte, ↓gA, gB, refs, den, hasTy, Ty.cmp, Ty.depth, reduceCtorEq, Nat.reduceAdd, Nat.reduceSub, Nat.reduceMul, Nat.reduceEqDiff, Nat.reduceLT, Nat.reduceLeDiff, Nat.reduceMod, Nat.reduceDiv, Nat.reducePow, Nat.reduceBEq, Int.reduceToNat, Int.reduceLE, Int.reduceLT, Int.reduceEq, Int.reduceAdd, Int.reduceMul, Int.reduceSub, Int.reduceNeg, Int.reduceNe, Tryd.TS, Tryd.EV, td64, tm64, u256_at _ hi4, u256_list, shrN (show i % 64 ≤ 64 by omega), and_one (limb_lt _ _ _), limb_bit]
    repeat (refine And.intro (by omega) ?_)
    rw [show decide (((e / 2 ^ i % 2 : Nat) : Int) = 1) = decide (e / 2 ^ i % 2 = 1) from decide_eq_decide.2 (by generalize e / 2 ^ i = q; omega)]
    refine HIf_dec (a := ()) (b := ()) (fun hb => ?_) (fun hb => ?_)
    · simp -dsimp -implicitDefEqProofs (disch := omega) only [↓reduceIte, ↓gA, gB, refs, den, hasTy, Ty.cmp, Ty.depth, reduceCtorEq, Nat.reduceAdd, Nat.reduceSub, Nat.reduceMul, Nat.reduceEqDiff, Nat.reduceLT, Nat.reduceLeDiff, Nat.reduceMod, Nat.reduceDiv, Nat.reducePow, Nat.reduceBEq, Int.reduceToNat, Int.reduceLE, Int.reduceLT, Int.reduceEq, Int.reduceAdd, Int.reduceMul, Int.reduceSub, Int.reduceNeg, Int.reduceNe, Tryd.TS, Tryd.EV]
      first | (with_reducible refine HCall_mono (gmul x c (by omega) hc) ?_; rintro rs rfl) | (with_reducible refine HCallF_mono (gmul x c (by omega) hc) (by first | rfl | simp [flatR, RV.flat, RV.isD, Ty.flat]) ?_) | (refine SCall.mono (gmul x c (by omega) hc) ?_; rintro rs rfl)
      simp -dsimp -implicitDefEqProofs (disch := omega) only [↓reduceIte, ↓gA, gB, refs, den, hasTy, Ty.cmp, Ty.depth, reduceCtorEq, Nat.reduceAdd, Nat.reduceSub, Nat.reduceMul, Nat.reduceEqDiff, Nat.reduceLT, Nat.reduceLeDiff, Nat.reduceMod, Nat.reduceDiv, Nat.reducePow, Nat.reduceBEq, Int.reduceToNat, Int.reduceLE, Int.reduceLT, Int.reduceEq, Int.reduceAdd, Int.reduceMul, Int.reduceSub, Int.reduceNeg, Int.reduceNe, Tryd.TS, Tryd.EV]
      first | (with_reducible refine HCall_mono (gmul c c hc hc) ?_; rintro rs rfl) | (with_reducible refine HCallF_mono (gmul c c hc hc) (by first | rfl | simp [flatR, RV.flat, RV.isD, Ty.flat]) ?_) | (refine SCall.mono (gmul c c hc hc) ?_; rintro rs rfl)
      simp -dsimp -implicitDefEqProofs (disch := omega) only [↓reduceIte, ↓gA, gB, refs, den, hasTy, Ty.cmp, Ty.depth, reduceCtorEq, Nat.reduceAdd, Nat.reduceSub, Nat.reduceMul, Nat.reduceEqDiff, Nat.reduceLT, Nat.reduceLeDiff, Nat.reduceMod, Nat.reduceDiv, Nat.reducePow, Nat.reduceBEq, Int.reduceToNat, Int.reduceLE, Int.reduceLT, Int.reduceEq, Int.reduceAdd, Int.reduceMul, Int.reduceSub, Int.reduceNeg, Int.reduceNe, Tryd.TS, Tryd.EV]
      refine ⟨(i + 1, x * c % 115792089237316195423570985008687907853269984665640564039457584007913129603823, c * c % 115792089237316195423570985008687907853269984665640564039457584007913129603823), ⟨by show i + 1 ≤ bl e; omega, Nat.mod_lt _ (by omega), Nat.lt_trans (Nat.mod_lt _ (by omega)) (show 115792089237316195423570985008687907853269984665640564039457584007913129603823 < 115792089237316195423570985008687907853269984665640564039457584007913129639936 by omega), (Nat.mod_mod _ _).trans (pow_bits hX hC hb), (Nat.mod_mod _ _).trans (sq_bits hC)⟩, by show bl e - (i + 1) < bl e - i; omega, ?_⟩
      first | (refine sub_ren w0 hL0 [(0, 0), (1, 1), (2, 2), (3, 3)] rfl rfl ?_ rfl ?_ ?_; (focus (simp [keysLt]; done)); (focus (simp [renTm, Go.SE.look, renTV, renSV]; done)); (focus (simp [renOb, Go.SE.look, renSV]; done)))
    · simp -dsimp -implicitDefEqProofs (disch := omega) only [↓reduceIte, ↓gA, gB, refs, den, hasTy, Ty.cmp, Ty.depth, reduceCtorEq, Nat.reduceAdd, Nat.reduceSub, Nat.reduceMul, Nat.reduceEqDiff, Nat.reduceLT, Nat.reduceLeDiff, Nat.reduceMod, Nat.reduceDiv, Nat.reducePow, Nat.reduceBEq, Int.reduceToNat, Int.reduceLE, Int.reduceLT, Int.reduceEq, Int.reduceAdd, Int.reduceMul, Int.reduceSub, Int.reduceNeg, Int.reduceNe, Tryd.TS, Tryd.EV]
      first | (with_reducible refine HCall_mono (gmul c c hc hc) ?_; rintro rs rfl) | (with_reducible refine HCallF_mono (gmul c c hc hc) (by first | rfl | simp [flatR, RV.flat, RV.isD, Ty.flat]) ?_) | (refine SCall.mono (gmul c c hc hc) ?_; rintro rs rfl)
      simp -dsimp -implicitDefEqProofs (disch := omega) only [↓reduceIte, ↓gA, gB, refs, den, hasTy, Ty.cmp, Ty.depth, reduceCtorEq, Nat.reduceAdd, Nat.reduceSub, Nat.reduceMul, Nat.reduceEqDiff, Nat.reduceLT, Nat.reduceLeDiff, Nat.reduceMod, Nat.reduceDiv, Nat.reducePow, Nat.reduceBEq, Int.reduceToNat, Int.reduceLE, Int.reduceLT, Int.reduceEq, Int.reduceAdd, Int.reduceMul, Int.reduceSub, Int.reduceNeg, Int.reduceNe, Tryd.TS, Tryd.EV]
      refine ⟨(i + 1, x, c * c % 115792089237316195423570985008687907853269984665640564039457584007913129603823), ⟨by show i + 1 ≤ bl e; omega, hx, Nat.lt_trans (Nat.mod_lt _ (by omega)) (show 115792089237316195423570985008687907853269984665640564039457584007913129603823 < 115792089237316195423570985008687907853269984665640564039457584007913129639936 by omega), pow_nobit hX hb, (Nat.mod_mod _ _).trans (sq_bits hC)⟩, by show bl e - (i + 1) < bl e - i; omega, ?_⟩
      first | (refine sub_ren w0 hL0 [(0, 0), (1, 1), (2, 2), (3, 3)] rfl rfl ?_ rfl ?_ ?_; (focus (simp [keysLt]; done)); (focus (simp [renTm, Go.SE.look, renTV, renSV]; done)); (focus (simp [renOb, Go.SE.look, renSV]; done)))
  · have hie : i = bl e := by omega
    subst hie
    rw [Nat.mod_eq_of_lt bl_lt, Nat.mod_eq_of_lt hx] at hX
    simp -dsimp -implicitDefEqProofs (disch := omega) only [↓reduceIte, ↓gA, gB, refs, den, hasTy, Ty.cmp, Ty.depth, reduceCtorEq, Nat.reduceAdd, Nat.reduceSub, Nat.reduceMul, Nat.reduceEqDiff, Nat.reduceLT, Nat.reduceLeDiff, Nat.reduceMod, Nat.reduceDiv, Nat.reducePow, Nat.reduceBEq, Int.reduceToNat, Int.reduceLE, Int.reduceLT, Int.reduceEq, Int.reduceAdd, Int.reduceMul, Int.reduceSub, Int.reduceNeg, Int.reduceNe, Tryd.TS, Tryd.EV]
    rw [hX]

theorem pow_down {a e i m x : Nat} (hx : x = a ^ (e / 2 ^ (i + 1)) % m) : (e / 2 ^ i % 2 = 1 → x * x % m * a % m = a ^ (e / 2 ^ i) % m) ∧ (¬ e / 2 ^ i % 2 = 1 → x * x % m = a ^ (e / 2 ^ i) % m) := by
  have h1 : e / 2 ^ (i + 1) = e / 2 ^ i / 2 := by rw [Nat.pow_succ, Nat.div_div_eq_div_mul]
  rw [h1] at hx
  generalize e / 2 ^ i = q at *
  have h2 : x * x % m = a ^ (q / 2 + q / 2) % m := by rw [hx, ← Nat.mul_mod, ← Nat.pow_add]
  refine ⟨fun hb => ?_, fun hb => ?_⟩
  · rw [h2, Nat.mod_mul_mod, ← Nat.pow_succ]; congr 2; omega
  · rw [h2]; congr 2; omega

set_option maxHeartbeats 2000000 in
theorem wexpmodRef (a e m : Nat) (ha : a < 115792089237316195423570985008687907853269984665640564039457584007913129639936) (he : e < 115792089237316195423570985008687907853269984665640564039457584007913129639936) (hm : m < 115792089237316195423570985008687907853269984665640564039457584007913129639936) (h0 : 0 < m) : SCall Tryd.prog 91 [(.arr 4 (.int .u64), u256 a), (.arr 4 (.int .u64), u256 e), (.arr 4 (.int .u64), u256 m)] (fun rs => rs = [.d (.arr 4 (.int .u64)) (u256 (a ^ e % m))]) := by
  have hf1 : SCall Tryd.prog 64 [(.int .u64, .n 1)] (fun rs => rs = [.d (.arr 4 (.int .u64)) (u256 1)]) := fromUintRef 1 (by omega)
  have hbl := bl_le (show e < 2 ^ 256 from he)
  refine scall_intro (n := 34) (rl := [.cell 6 45]) (us := [45]) Tryd.hT Tryd.func91 rfl rfl rfl rfl rfl (Nat.le_of_ble_eq_true rfl) ?_
  intro w0 hL0
  simp -dsimp -implicitDefEqProofs (disch := omega) only [↓reduceIte, ↓gA, gB, refs, den, hasTy, Ty.cmp, Ty.depth, reduceCtorEq, Nat.reduceAdd, Nat.reduceSub, Nat.reduceMul, Nat.reduceEqDiff, Nat.reduceLT, Nat.reduceLeDiff, Nat.reduceMod, Nat.reduceDiv, Nat.reducePow, Nat.reduceBEq, Int.reduceToNat, Int.reduceLE, Int.reduceLT, Int.reduceEq, Int.reduceAdd, Int.reduceMul, Int.reduceSub, Int.reduceNeg, Int.reduceNe, Tryd.TS, Tryd.EV, rep4]
  first | (with_reducible refine HCall_mono (wzeroRef m hm) ?_; rintro rs rfl) | (with_reducible refine HCallF_mono (wzeroRef m hm) (by first | rfl | simp [flatR, RV.flat, RV.isD, Ty.flat]) ?_) | (refine SCall.mono (wzeroRef m hm) ?_; rintro rs rfl)
  simp -dsimp -implicitDefEqProofs (disch := omega) only [↓reduceIte, ↓gA, gB, refs, den, hasTy, Ty.cmp, Ty.depth, reduceCtorEq, Nat.reduceAdd, Nat.reduceSub, Nat.reduceMul, Nat.reduceEqDiff, Nat.reduceLT, Nat.reduceLeDiff, Nat.reduceMod, Nat.reduceDiv, Nat.reducePow, Nat.reduceBEq, Int.reduceToNat, Int.reduceLE, Int.reduceLT, Int.reduceEq, Int.reduceAdd, Int.reduceMul, Int.reduceSub, Int.reduceNeg, Int.reduceNe, Tryd.TS, Tryd.EV]
  refine HIf_dec (a := ()) (b := ()) (fun hz => ?_) (fun hz => ?_)
  · omega
  simp -dsimp -implicitDefEqProofs (disch := omega) only [↓reduceIte, ↓gA, gB, refs, den, hasTy, Ty.cmp, Ty.depth, reduceCtorEq, Nat.reduceAdd, Nat.reduceSub, Nat.reduceMul, Nat.reduceEqDiff, Nat.reduceLT, Nat.reduceLeDiff, Nat.reduceMod, Nat.reduceDiv, Nat.reducePow, Nat.reduceBEq, Int.reduceToNat, Int.reduceLE, Int.reduceLT, Int.reduceEq, Int.reduceAdd, Int.reduceMul, Int.reduceSub, Int.reduceNeg, Int.reduceNe, Tryd.TS, Tryd.EV]
  have hr1 := wreduceRef 1 m (by omega) hm h0
  refine sdrawM Tryd.hT (by kernel_rfl) [4] [0, 2] (.alt 1 (.alt 0 (.alt 2 (.alt 3 (.alt 4 .nil .nil) .nil) .nil) .nil) .nil) ⟨34, [(3, .v (.ptr 0 [])), (4, .v (.ptr 1 [])), (5, .v (.ptr 2 [])), (6, .v (.ptr 3 [])), (7, .v (.ptr 4 []))], [(0, ⟨.arr 4 (.int .u64), .d (.arr 4 (.int .u64)) (u256 a)⟩), (1, ⟨.arr 4 (.int .u64), .d (.arr 4 (.int .u64)) (u256 e)⟩), (2, ⟨.arr 4 (.int .u64), .d (.arr 4 (.int .u64)) (u256 m)⟩), (3, ⟨.arr 4 (.int .u64), .d (.arr 4 (.int .u64)) (.l [.n 0, .n 0, .n 0, .n 0])⟩), (4, ⟨.arr 4 (.int .u64), .d (.arr 4 (.int .u64)) (u256 (1 % m))⟩)], 5⟩ (by kernel_rfl) (by kernel_rfl) ?_ ?_
  · simp only [tr_alt, tr_nil, tr_nil', gK, ↓reduceIte, Nat.reduceEqDiff]
    simp -dsimp -implicitDefEqProofs (disch := omega) only [↓reduceIte, ↓gA, gB, refs, den, hasTy, Ty.cmp, Ty.depth, reduceCtorEq, Nat.reduceAdd, Nat.reduceSub, Nat.reduceMul, Nat.reduceEqDiff, Nat.reduceLT, Nat.reduceLeDiff, Nat.reduceMod, Nat.reduceDiv, Nat.reducePow, Nat.reduceBEq, Int.reduceToNat, Int.reduceLE, Int.reduceLT, Int.reduceEq, Int.reduceAdd, Int.reduceMul, Int.reduceSub, Int.reduceNeg, Int.reduceNe, Tryd.TS, Tryd.EV, rep4]
    repeat' (first
      | with_reducible refine And.intro ?_ ?_
      | (first | (with_reducible refine HCall_mono (hf1) ?_; rintro rs rfl) | (with_reducible refine HCallF_mono (hf1) (by first | rfl | simp [flatR, RV.flat, RV.isD, Ty.flat]) ?_)
         simp -dsimp -implicitDefEqProofs (disch := omega) only [↓reduceIte, ↓gA, gB, refs, den, hasTy, Ty.cmp, Ty.depth, reduceCtorEq, Nat.reduceAdd, Nat.reduceSub, Nat.reduceMul, Nat.reduceEqDiff, Nat.reduceLT, Nat.reduceLeDiff, Nat.reduceMod, Nat.reduceDiv, Nat.reducePow, Nat.reduceBEq, Int.reduceToNat, Int.reduceLE, Int.reduceLT, Int.reduceEq, Int.reduceAdd, Int.reduceMul, Int.reduceSub, Int.reduceNeg, Int.reduceNe, Tryd.TS, Tryd.EV, rep4])
      | (first | (with_reducible refine HCall_mono (hr1) ?_; rintro rs rfl) | (with_reducible refine HCallF_mono (hr1) (by first | rfl | simp [flatR, RV.flat, RV.isD, Ty.flat]) ?_)
         simp -dsimp -implicitDefEqProofs (disch := omega) only [↓reduceIte, ↓gA, gB, refs, den, hasTy, Ty.cmp, Ty.depth, reduceCtorEq, Nat.reduceAdd, Nat.reduceSub, Nat.reduceMul, Nat.reduceEqDiff, Nat.reduceLT, Nat.reduceLeDiff, Nat.reduceMod, Nat.reduceDiv, Nat.reducePow, Nat.reduceBEq, Int.reduceToNat, Int.reduceLE, Int.reduceLT, Int.reduceEq, Int.reduceAdd, Int.reduceMul, Int.reduceSub, Int.reduceNeg, Int.reduceNe, Tryd.TS, Tryd.EV, rep4])
      | with_reducible exact True.intro
      | (first | (refine sub_ren w0 hL0 [(0, 0), (1, 1), (2, 2), (3, 3), (4, 7)] rfl rfl ?_ rfl ?_ ?_; (focus (simp [keysLt]; done)); (focus (simp [renTm, Go.SE.look, renTV, renSV]; done)); (focus (simp [renOb, Go.SE.look, renSV]; done)))))
  simp -dsimp -implicitDefEqProofs (disch := omega) only [↓reduceIte, ↓gA, gB, refs, den, hasTy, Ty.cmp, Ty.depth, reduceCtorEq, Nat.reduceAdd, Nat.reduceSub, Nat.reduceMul, Nat.reduceEqDiff, Nat.reduceLT, Nat.reduceLeDiff, Nat.reduceMod, Nat.reduceDiv, Nat.reducePow, Nat.reduceBEq, Int.reduceToNat, Int.reduceLE, Int.reduceLT, Int.reduceEq, Int.reduceAdd, Int.reduceMul, Int.reduceSub, Int.reduceNeg, Int.reduceNe, Tryd.TS, Tryd.EV]
  first | (with_reducible refine HCall_mono (wlenRef e he) ?_; rintro rs rfl) | (with_reducible refine HCallF_mono (wlenRef e he) (by first | rfl | simp [flatR, RV.flat, RV.isD, Ty.flat]) ?_) | (refine SCall.mono (wlenRef e he) ?_; rintro rs rfl)
  simp -dsimp -implicitDefEqProofs (disch := omega) only [↓reduceIte, ↓gA, gB, refs, den, hasTy, Ty.cmp, Ty.depth, reduceCtorEq, Nat.reduceAdd, Nat.reduceSub, Nat.reduceMul, Nat.reduceEqDiff, Nat.reduceLT, Nat.reduceLeDiff, Nat.reduceMod, Nat.reduceDiv, Nat.reducePow, Nat.reduceBEq, Int.reduceToNat, Int.reduceLE, Int.reduceLT, Int.reduceEq, Int.reduceAdd, Int.reduceMul, Int.reduceSub, Int.reduceNeg, Int.reduceNe, Tryd.TS, Tryd.EV]
  refine sloop Tryd.hT (α := Nat × Nat) (fun x => ⟨34, [(3, .v (.ptr 0 [])), (4, .v (.ptr 1 [])), (5, .v (.ptr 2 [])), (6, .v (.ptr 3 [])), (7, .v (.ptr 4 [])), (8, .v (.d (.int .i64) (.n ((x.1 : Int) - 1))))], [(0, ⟨.arr 4 (.int .u64), .d (.arr 4 (.int .u64)) (u256 a)⟩), (1, ⟨.arr 4 (.int .u64), .d (.arr 4 (.int .u64)) (u256 e)⟩), (2, ⟨.arr 4 (.int .u64), .d (.arr 4 (.int .u64)) (u256 m)⟩), (3, ⟨.arr 4 (.int .u64), .d (.arr 4 (.int .u64)) (.l [.n 0, .n 0, .n 0, .n 0])⟩), (4, ⟨.arr 4 (.int .u64), .d (.arr 4 (.int .u64)) (u256 x.2)⟩)], 5⟩) (fun x => x.1 ≤ 256 ∧ x.2 = a ^ (e / 2 ^ x.1) % m) (fun x => x.1) (bl e, 1 % m) ?_ ⟨hbl, by rw [Nat.div_eq_of_lt bl_lt, Nat.pow_zero]⟩ ?_
  · first | (refine sub_ren w0 hL0 [(0, 0), (1, 1), (2, 2), (3, 3), (4, 4)] rfl rfl ?_ rfl ?_ ?_; (focus (simp [keysLt]; done)); (focus (simp [renTm, Go.SE.look, renTV, renSV]; done)); (focus (simp [renOb, Go.SE.look, renSV]; done))) | (refine sub_ren w0 hL0 [(0, 0), (1, 1), (2, 2), (3, 3), (4, 5)] rfl rfl ?_ rfl ?_ ?_; (focus (simp [keysLt]; done)); (focus (simp [renTm, Go.SE.look, renTV, renSV]; done)); (focus (simp [renOb, Go.SE.look, renSV]; done))) | (refine sub_ren w0 hL0 [(0, 0), (1, 1), (2, 2), (3, 3), (4, 6)] rfl rfl ?_ rfl ?_ ?_; (focus (simp [keysLt]; done)); (focus (simp [renTm, Go.SE.look, renTV, renSV]; done)); (focus (simp [renOb, Go.SE.look, renSV]; done))) | (refine sub_ren w0 hL0 [(0, 0), (1, 1), (2, 2), (3, 3), (4, 7)] rfl rfl ?_ rfl ?_ ?_; (focus (simp [keysLt]; done)); (focus (simp [renTm, Go.SE.look, renTV, renSV]; done)); (focus (simp [renOb, Go.SE.look, renSV]; done)))
  rintro ⟨k, x⟩ ⟨hk, hX⟩
  simp only at hk hX
  have hxm : x < m := by rw [hX]; exact Nat.mod_lt _ h0
  simp -dsimp -implicitDefEqProofs (disch := omega) only [↓reduceIte, ↓gA, gB, refs, den, hasTy, Ty.cmp, Ty.depth, reduceCtorEq, Nat.reduceAdd, Nat.reduceSub, Nat.reduceMul, Nat.reduceEqDiff, Nat.reduceLT, Nat.reduceLeDiff, Nat.reduceMod, Nat.reduceDiv, Nat.reducePow, Nat.reduceBEq, Int.reduceToNat, Int.reduceLE, Int.reduceLT, Int.reduceEq, Int.reduceAdd, Int.reduceMul, Int.reduceSub, Int.reduceNeg, Int.reduceNe, Tryd.TS, Tryd.EV]
  refine HIf_dec (a := ()) (b := ()) (fun h => ?_) (fun h => ?_)
  · obtain ⟨i, rfl⟩ : ∃ i, k = i + 1 := ⟨k - 1, by omega⟩
    rw [show (((i + 1 : Nat) : Int) - 1) = (i : Int) by omega]
    have hp := pow_down hX
    simp -dsimp -implicitDefEqProofs (disch := omega) only [↓reduceIte, ↓gA, gB, refs, den, hasTy, Ty.cmp, Ty.depth, reduceCtorEq, Nat.reduceAdd, Nat.reduceSub, Nat.reduceMul, Nat.reduceEqDiff, Nat.reduceLT, Nat.reduceLeDiff, Nat.reduceMod, Nat.reduceDiv, Nat.reducePow, Nat.reduceBEq, Int.reduceToNat, Int.reduceLE, Int.reduceLT, Int.reduceEq, Int.reduceAdd, Int.reduceMul, Int.reduceSub, Int.reduceNeg, Int.reduceNe, Tryd.TS, Tryd.EV]
    first | (with_reducible refine HCall_mono (wmulmodRef x x m (by omega) (by omega) hm h0) ?_; rintro rs rfl) | (with_reducible refine HCallF_mono (wmulmodRef x x m (by omega) (by omega) hm h0) (by first | rfl | simp [flatR, RV.flat, RV.isD, Ty.flat]) ?_) | (refine SCall.mono (wmulmodRef x x m (by omega) (by omega) hm h0) ?_; rintro rs rfl)
    simp -dsimp -implicitDefEqProofs (disch := omega) only [↓reduceIte, ↓gA, gB, refs, den, hasTy, Ty.cmp, Ty.depth, reduceCtorEq, Nat.reduceAdd, Nat.reduceSub, Nat.reduceMul, Nat.reduceEqDiff, Nat.reduceLT, Nat.reduceLeDiff, Nat.reduceMod, Nat.reduceDiv, Nat.reducePow, Nat.reduceBEq, Int.reduceToNat, Int.reduceLE, Int.reduceLT, Int.reduceEq, Int.reduceAdd, Int.reduceMul, Int.reduceSub, Int.reduceNeg, Int.reduceNe, Tryd.TS, Tryd.EV]
    first | (with_reducible refine HCall_mono (wbitRef e i (by omega)) ?_; rintro rs rfl) | (with_reducible refine HCallF_mono (wbitRef e i (by omega)) (by first | rfl | simp [flatR, RV.flat, RV.isD, Ty.flat]) ?_) | (refine SCall.mono (wbitRef e i (by omega)) ?_; rintro rs rfl)
    simp -dsimp -implicitDefEqProofs (disch := omega) only [↓reduceIte, ↓gA, gB, refs, den, hasTy, Ty.cmp, Ty.depth, reduceCtorEq, Nat.reduceAdd, Nat.reduceSub, Nat.reduceMul, Nat.reduceEqDiff, Nat.reduceLT, Nat.reduceLeDiff, Nat.reduceMod, Nat.reduceDiv, Nat.reducePow, Nat.reduceBEq, Int.reduceToNat, Int.reduceLE, Int.reduceLT, Int.reduceEq, Int.reduceAdd, Int.reduceMul, Int.reduceSub, Int.reduceNeg, Int.reduceNe, Tryd.TS, Tryd.EV]
    have hxx : x * x % m < m := Nat.mod_lt _ h0
    refine HIf_dec (a := ()) (b := ()) (fun hb => ?_) (fun hb => ?_)
    · simp -dsimp -implicitDefEqProofs (disch := omega) only [↓reduceIte, ↓gA, gB, refs, den, hasTy, Ty.cmp, Ty.depth, reduceCtorEq, Nat.reduceAdd, Nat.reduceSub, Nat.reduceMul, Nat.reduceEqDiff, Nat.reduceLT, Nat.reduceLeDiff, Nat.reduceMod, Nat.reduceDiv, Nat.reducePow, Nat.reduceBEq, Int.reduceToNat, Int.reduceLE, Int.reduceLT, Int.reduceEq, Int.reduceAdd, Int.reduceMul, Int.reduceSub, Int.reduceNeg, Int.reduceNe, Tryd.TS, Tryd.EV]
      first | (with_reducible refine HCall_mono (wmulmodRef (x * x % m) a m (by omega) ha hm h0) ?_; rintro rs rfl) | (with_reducible refine HCallF_mono (wmulmodRef (x * x % m) a m (by omega) ha hm h0) (by first | rfl | simp [flatR, RV.flat, RV.isD, Ty.flat]) ?_) | (refine SCall.mono (wmulmodRef (x * x % m) a m (by omega) ha hm h0) ?_; rintro rs rfl)
      simp -dsimp -implicitDefEqProofs (disch := omega) only [↓reduceIte, ↓gA, gB, refs, den, hasTy, Ty.cmp, Ty.depth, reduceCtorEq, Nat.reduceAdd, Nat.reduceSub, Nat.reduceMul, Nat.reduceEqDiff, Nat.reduceLT, Nat.reduceLeDiff, Nat.reduceMod, Nat.reduceDiv, Nat.reducePow, Nat.reduceBEq, Int.reduceToNat, Int.reduceLE, Int.reduceLT, Int.reduceEq, Int.reduceAdd, Int.reduceMul, Int.reduceSub, Int.reduceNeg, Int.reduceNe, Tryd.TS, Tryd.EV]
      refine ⟨(i, x * x % m * a % m), ⟨by show i ≤ 256; omega, hp.1 hb⟩, Nat.lt_succ_self i, ?_⟩
      first | (refine sub_ren w0 hL0 [(0, 0), (1, 1), (2, 2), (3, 3), (4, 4)] rfl rfl ?_ rfl ?_ ?_; (focus (simp [keysLt]; done)); (focus (simp [renTm, Go.SE.look, renTV, renSV]; done)); (focus (simp [renOb, Go.SE.look, renSV]; done)))
    · simp -dsimp -implicitDefEqProofs (disch := omega) only [↓reduceIte, ↓gA, gB, refs, den, hasTy, Ty.cmp, Ty.depth, reduceCtorEq, Nat.reduceAdd, Nat.reduceSub, Nat.reduceMul, Nat.reduceEqDiff, Nat.reduceLT, Nat.reduceLeDiff, Nat.reduceMod, Nat.reduceDiv, Nat.reducePow, Nat.reduceBEq, Int.reduceToNat, Int.reduceLE, Int.reduceLT, Int.reduceEq, Int.reduceAdd, Int.reduceMul, Int.reduceSub, Int.reduceNeg, Int.reduceNe, Tryd.TS, Tryd.EV]
      refine ⟨(i, x * x % m), ⟨by show i ≤ 256; omega, hp.2 hb⟩, Nat.lt_succ_self i, ?_⟩
      first | (refine sub_ren w0 hL0 [(0, 0), (1, 1), (2, 2), (3, 3), (4, 4)] rfl rfl ?_ rfl ?_ ?_; (focus (simp [keysLt]; done)); (focus (simp [renTm, Go.SE.look, renTV, renSV]; done)); (focus (simp [renOb, Go.SE.look, renSV]; done)))
  · have hk0 : k = 0 := by omega
    subst hk0
    rw [Nat.pow_zero, Nat.div_one] at hX
    simp -dsimp -implicitDefEqProofs (disch := omega) only [↓reduceIte, ↓gA, gB, refs, den, hasTy, Ty.cmp, Ty.depth, reduceCtorEq, Nat.reduceAdd, Nat.reduceSub, Nat.reduceMul, Nat.reduceEqDiff, Nat.reduceLT, Nat.reduceLeDiff, Nat.reduceMod, Nat.reduceDiv, Nat.reducePow, Nat.reduceBEq, Int.reduceToNat, Int.reduceLE, Int.reduceLT, Int.reduceEq, Int.reduceAdd, Int.reduceMul, Int.reduceSub, Int.reduceNeg, Int.reduceNe, Tryd.TS, Tryd.EV]
    rw [hX]
end Go.Proofs
/- Primes: Euclid's lemma, Fermat's little theorem, Pocklington's test, powers by squaring. Plain arithmetic. -/
namespace Go.Nt

def Pr (p : Nat) : Prop := 2 ≤ p ∧ ∀ d, d ∣ p → d = 1 ∨ d = p

theorem Pr.coprime {p a : Nat} (hp : Pr p) (h : ¬ p ∣ a) : Nat.gcd p a = 1 := by
  rcases hp.2 _ (Nat.gcd_dvd_left p a) with e | e
  · exact e
  · exact absurd (e ▸ Nat.gcd_dvd_right p a) h

theorem Pr.dvd_mul {p a b : Nat} (hp : Pr p) (h : p ∣ a * b) : p ∣ a ∨ p ∣ b := by
  by_cases ha : p ∣ a
  · exact .inl ha
  · exact .inr ((show Nat.Coprime p a from hp.coprime ha).dvd_of_dvd_mul_left h)

theorem Pr.dvd_pow {p a : Nat} (hp : Pr p) : ∀ {n : Nat}, p ∣ a ^ n → p ∣ a
  | 0, h => by
    have := Nat.le_of_dvd (by simp) h
    have := hp.1
    simp at *; omega
  | n + 1, h => by
    rw [Nat.pow_succ] at h
    rcases hp.dvd_mul h with k | k
    · exact hp.dvd_pow k
    · exact k

/-! binomials -/
def ch : Nat → Nat → Nat
  | _, 0 => 1
  | 0, _ + 1 => 0
  | n + 1, k + 1 => ch n k + ch n (k + 1)

theorem ch_zero (n : Nat) : ch n 0 = 1 := by cases n <;> rfl
theorem ch_gt : ∀ {n k : Nat}, n < k → ch n k = 0
  | 0, 0, h => by omega
  | 0, k + 1, _ => rfl
  | n + 1, 0, h => by omega
  | n + 1, k + 1, h => by rw [ch, ch_gt (by omega), ch_gt (by omega)]
theorem ch_self : ∀ n, ch n n = 1
  | 0 => rfl
  | n + 1 => by rw [ch, ch_self n, ch_gt (by omega)]
theorem ch_absorb : ∀ (n k : Nat), (k + 1) * ch (n + 1) (k + 1) = (n + 1) * ch n k
  | 0, 0 => rfl
  | 0, k + 1 => by simp [ch]
  | n + 1, 0 => by
    have h := ch_absorb n 0
    have e : ch (n + 1 + 1) (0 + 1) = ch (n + 1) 0 + ch (n + 1) (0 + 1) := rfl
    rw [e]
    rw [ch_zero] at *
    simp only [Nat.zero_add, Nat.one_mul, Nat.mul_one] at *
    rw [h]; omega
  | n + 1, k + 1 => by
    have h1 := ch_absorb n k
    have h2 := ch_absorb n (k + 1)
    have e : ch (n + 1 + 1) (k + 1 + 1) = ch (n + 1) (k + 1) + ch (n + 1) (k + 1 + 1) := rfl
    have e2 : ch (n + 1) (k + 1) = ch n k + ch n (k + 1) := rfl
    rw [e, Nat.mul_add, h2]
    have : (k + 1 + 1) * ch (n + 1) (k + 1) = (n + 1) * ch n k + ch (n + 1) (k + 1) := by rw [Nat.add_mul, h1, Nat.one_mul]
    rw [this]
    calc (n + 1) * ch n k + ch (n + 1) (k + 1) + (n + 1) * ch n (k + 1) = (n + 1) * (ch n k + ch n (k + 1)) + ch (n + 1) (k + 1) := by rw [Nat.mul_add]; omega
      _ = (n + 1 + 1) * ch (n + 1) (k + 1) := by rw [← e2, Nat.add_mul (n + 1) 1, Nat.one_mul]

def bs (a n : Nat) : Nat → Nat
  | 0 => 0
  | m + 1 => bs a n m + ch n m * a ^ m

theorem bs_step (a n : Nat) : ∀ m, bs a (n + 1) (m + 1) = bs a n (m + 1) + a * bs a n m
  | 0 => by simp [bs, ch_zero]
  | m + 1 => by
    have h := bs_step a n m
    rw [bs, h]
    have e : ch (n + 1) (m + 1) = ch n m + ch n (m + 1) := rfl
    rw [e, bs, bs, bs, Nat.pow_succ]
    simp only [Nat.mul_add, Nat.add_mul]
    have : a * (ch n m * a ^ m) = ch n m * (a ^ m * a) := by rw [Nat.mul_left_comm, Nat.mul_comm a]
    rw [this]
    omega

theorem bs_full (a : Nat) : ∀ n, bs a n (n + 1) = (1 + a) ^ n
  | 0 => by simp [bs, ch]
  | n + 1 => by
    rw [bs_step, bs, ch_gt (Nat.lt_succ_self n), Nat.zero_mul, Nat.add_zero, bs_full a n, Nat.pow_succ, Nat.mul_add, Nat.mul_one, Nat.mul_comm a]

theorem Pr.dvd_ch {p k : Nat} (hp : Pr p) (h0 : 0 < k) (h1 : k < p) : p ∣ ch p k := by
  obtain ⟨k, rfl⟩ : ∃ j, k = j + 1 := ⟨k - 1, by omega⟩
  obtain ⟨n, rfl⟩ : ∃ n, p = n + 1 := ⟨p - 1, by omega⟩
  have h := ch_absorb n k
  rcases hp.dvd_mul (show n + 1 ∣ (k + 1) * ch (n + 1) (k + 1) from ⟨_, h⟩) with d | d
  · have := Nat.le_of_dvd (by omega) d
    omega
  · exact d

theorem Pr.bs {p : Nat} (hp : Pr p) (a : Nat) : ∀ m, m + 1 ≤ p → bs a p (m + 1) % p = 1 % p
  | 0, _ => by simp [Nt.bs, ch_zero]
  | m + 1, h => by
    have ih := hp.bs a m (by omega)
    rw [Nt.bs, Nat.add_mod, ih]
    have : ch p (m + 1) * a ^ (m + 1) % p = 0 := Nat.mod_eq_zero_of_dvd (Nat.dvd_trans (hp.dvd_ch (by omega) (by omega)) (Nat.dvd_mul_right _ _))
    rw [this]
    simp

theorem Pr.frob {p : Nat} (hp : Pr p) (a : Nat) : (1 + a) ^ p % p = (1 + a ^ p) % p := by
  rw [← bs_full, Nt.bs, ch_self, Nat.one_mul]
  obtain ⟨n, e⟩ : ∃ n, p = n + 1 := ⟨p - 1, by have := hp.1; omega⟩
  have := hp.bs a n (by omega)
  rw [← e] at this
  rw [Nat.add_mod, this, ← Nat.add_mod]

theorem Pr.fermat' {p : Nat} (hp : Pr p) : ∀ a, a ^ p % p = a % p
  | 0 => by
    have := hp.1
    rw [Nat.zero_pow (by omega)]
  | a + 1 => by
    rw [Nat.add_comm a 1, hp.frob, Nat.add_mod, hp.fermat' a, ← Nat.add_mod]

theorem Pr.fermat {p a : Nat} (hp : Pr p) (h : ¬ p ∣ a) : a ^ (p - 1) % p = 1 := by
  have h2 := hp.1
  have h1 := hp.fermat' a
  have ha : 0 < a := by
    rcases Nat.eq_zero_or_pos a with e | e
    · subst e; exact absurd (Nat.dvd_zero p) h
    · exact e
  have e : a ^ p = a * a ^ (p - 1) := by
    rw [Nat.mul_comm, ← Nat.pow_succ]; congr 1; omega
  have hle : 1 ≤ a ^ (p - 1) := Nat.pow_pos ha
  have hd : p ∣ a * (a ^ (p - 1) - 1) := by
    rw [Nat.mul_sub, Nat.mul_one, ← e]
    exact Nat.dvd_of_mod_eq_zero (Nat.sub_mod_eq_zero_of_mod_eq h1)
  rcases hp.dvd_mul hd with k | k
  · exact absurd k h
  · obtain ⟨c, hc⟩ := k
    have : a ^ (p - 1) = 1 + p * c := by omega
    rw [this, Nat.add_mul_mod_self_left, Nat.mod_eq_of_lt (by omega)]

theorem exists_prime : ∀ n, 2 ≤ n → ∃ p, Pr p ∧ p ∣ n := by
  intro n
  induction n using Nat.strongRecOn with
  | ind n ih =>
    intro h
    by_cases hp : Pr n
    · exact ⟨n, hp, Nat.dvd_refl n⟩
    · have : ∃ d, d ∣ n ∧ d ≠ 1 ∧ d ≠ n := by
        apply Classical.byContradiction
        intro hc
        exact hp ⟨h, fun d hd => by
          by_cases h1 : d = 1
          · exact .inl h1
          · by_cases h2 : d = n
            · exact .inr h2
            · exact absurd ⟨d, hd, h1, h2⟩ hc⟩
      obtain ⟨d, hd, h1, h2⟩ := this
      have hle := Nat.le_of_dvd (by omega) hd
      have h0 : d ≠ 0 := by
        rintro rfl
        have := Nat.eq_zero_of_zero_dvd hd
        omega
      obtain ⟨p, hp, hq⟩ := ih d (by omega) (by omega)
      exact ⟨p, hp, Nat.dvd_trans hq hd⟩

theorem pow_gcd {d a : Nat} : ∀ (x y : Nat), a ^ x % d = 1 % d → a ^ y % d = 1 % d → a ^ (Nat.gcd x y) % d = 1 % d := by
  intro x y
  induction x, y using Nat.gcd.induction with
  | H0 n => intro _ h; rw [Nat.gcd_zero_left]; exact h
  | H1 m n hm ih =>
    intro h1 h2
    rw [Nat.gcd_rec]
    refine ih ?_ h1
    have e : a ^ n = (a ^ m) ^ (n / m) * a ^ (n % m) := by rw [← Nat.pow_mul, ← Nat.pow_add, Nat.div_add_mod]
    rw [e, Nat.mul_mod, Nat.pow_mod, h1, ← Nat.pow_mod, Nat.one_pow, ← Nat.mul_mod, Nat.one_mul] at h2
    exact h2

/-- Pocklington's test with one prime factor that is greater than the root. -/
theorem pock {N F R a : Nat} (hF : Pr F) (hN : N = F * R + 1) (hR : 0 < R) (hs : N ≤ F * F) (h1 : a ^ (F * R) % N = 1) (h2 : Nat.gcd (a ^ R % N + (N - 1)) N = 1) : Pr N := by
  have hFp := hF.1
  have hNp : 2 ≤ N := by have := Nat.mul_pos (show 0 < F by omega) hR; omega
  have key : ∀ d, Pr d → d ∣ N → F < d := by
    intro d hd hdN
    have hd2 := hd.1
    have hda : ¬ d ∣ a := by
      intro k
      have : d ∣ a ^ (F * R) := by
        have : a ^ (F * R) = a * a ^ (F * R - 1) := by
          rw [Nat.mul_comm a, ← Nat.pow_succ]; congr 1
          have := Nat.mul_pos (show 0 < F by omega) hR; omega
        rw [this]; exact Nat.dvd_trans k (Nat.dvd_mul_right _ _)
      have h3 := Nat.mod_eq_zero_of_dvd this
      have h4 := Nat.mod_mod_of_dvd (a ^ (F * R)) hdN
      rw [h1, h3, Nat.mod_eq_of_lt (by omega)] at h4
      omega
    have f1 : a ^ (F * R) % d = 1 % d := by rw [← Nat.mod_mod_of_dvd (a ^ (F * R)) hdN, h1]
    have f2 : a ^ (d - 1) % d = 1 % d := by rw [hd.fermat hda, Nat.mod_eq_of_lt (by omega)]
    have hdiv : F ∣ d - 1 := by
      apply Classical.byContradiction
      intro hc
      have hco : Nat.gcd F (d - 1) = 1 := hF.coprime hc
      have hg : Nat.gcd (F * R) (d - 1) = Nat.gcd R (d - 1) := Nat.Coprime.gcd_mul_left_cancel R hco
      have h3 := pow_gcd _ _ f1 f2
      rw [hg] at h3
      have h4 : a ^ R % d = 1 % d := by
        obtain ⟨c, hc⟩ := Nat.gcd_dvd_left R (d - 1)
        have : a ^ R = (a ^ Nat.gcd R (d - 1)) ^ c := by rw [← Nat.pow_mul, ← hc]
        rw [this, Nat.pow_mod, h3, ← Nat.pow_mod, Nat.one_pow]
      have h5 : d ∣ a ^ R % N + (N - 1) := by
        apply Nat.dvd_of_mod_eq_zero
        rw [Nat.add_mod, Nat.mod_mod_of_dvd _ hdN, h4, ← Nat.add_mod, show 1 + (N - 1) = N by omega]
        exact Nat.mod_eq_zero_of_dvd hdN
      have h6 := Nat.dvd_gcd h5 hdN
      rw [h2] at h6
      have := Nat.le_of_dvd (by omega) h6
      omega
    have := Nat.le_of_dvd (by omega) hdiv
    omega
  refine ⟨hNp, fun x hx => ?_⟩
  apply Classical.byContradiction
  intro hc
  have hx1 : x ≠ 1 := fun e => hc (.inl e)
  have hx2 : x ≠ N := fun e => hc (.inr e)
  obtain ⟨y, hy⟩ := hx
  have hx0 : x ≠ 0 := by rintro rfl; simp at hy; omega
  have hy0 : y ≠ 0 := by rintro rfl; simp at hy; omega
  have hy1 : y ≠ 1 := by rintro rfl; simp at hy; exact hx2 hy.symm
  obtain ⟨d, hd, hdx⟩ := exists_prime x (by omega)
  obtain ⟨e, he, hey⟩ := exists_prime y (by omega)
  have k1 := key d hd (Nat.dvd_trans hdx ⟨y, hy⟩)
  have k2 := key e he (Nat.dvd_trans hey ⟨x, by rw [hy, Nat.mul_comm]⟩)
  have l1 := Nat.le_of_dvd (by omega) hdx
  have l2 := Nat.le_of_dvd (by omega) hey
  have : F * F < x * y := Nat.mul_lt_mul'' (by omega) (by omega)
  omega

/-- A power by squaring: k bits of the exponent. -/
def pm (n : Nat) : Nat → Nat → Nat → Nat
  | 0, _, _ => 1
  | k + 1, a, e => if e % 2 = 1 then a * pm n k (a * a % n) (e / 2) % n else pm n k (a * a % n) (e / 2)

theorem pm_ok (n : Nat) : ∀ (k a e : Nat), e < 2 ^ k → pm n k a e % n = a ^ e % n
  | 0, a, e, h => by
    have : e = 0 := by simpa using h
    subst this; rfl
  | k + 1, a, e, h => by
    have ih := pm_ok n k (a * a % n) (e / 2) (by rw [Nat.pow_succ] at h; omega)
    have h2 : (a * a % n) ^ (e / 2) % n = a ^ (2 * (e / 2)) % n := by
      rw [← Nat.pow_mod, Nat.pow_mul, Nat.pow_two]
    rw [h2] at ih
    rw [pm]
    split
    · rename_i h1
      rw [Nat.mod_mod, Nat.mul_mod, ih, ← Nat.mul_mod, ← Nat.pow_succ']
      congr 2; omega
    · rename_i h1
      rw [ih]; congr 2; omega

theorem pock' {N F R a k : Nat} (hF : Pr F) (hN : N = F * R + 1) (hR : 0 < R) (hs : N ≤ F * F) (hk : F * R < 2 ^ k) (h1 : pm N k a (F * R) % N = 1) (h2 : Nat.gcd (pm N k a R % N + (N - 1)) N = 1) : Pr N := by
  have hFp := hF.1
  have hRle : R ≤ F * R := Nat.le_mul_of_pos_left R (by omega)
  rw [pm_ok _ _ _ _ hk] at h1
  rw [pm_ok _ _ _ _ (by omega)] at h2
  exact pock hF hN hR hs h1 h2

theorem small {n : Nat} (k : Nat) (h2 : 2 ≤ n) (hk : n < k * k) (h : ((List.range k).all fun d => decide (d < 2) || decide (n % d ≠ 0)) = true) : Pr n := by
  have hall : ∀ d, d < k → 2 ≤ d → ¬ d ∣ n := by
    intro d hd h2 hdv
    have := List.all_eq_true.1 h d (List.mem_range.2 hd)
    simp only [Bool.or_eq_true, decide_eq_true_eq] at this
    rcases this with h | h
    · omega
    · exact h (Nat.mod_eq_zero_of_dvd hdv)
  refine ⟨h2, fun x hx => ?_⟩
  apply Classical.byContradiction
  intro hc
  have hx1 : x ≠ 1 := fun e => hc (.inl e)
  have hx2 : x ≠ n := fun e => hc (.inr e)
  have hx' := hx
  obtain ⟨y, hy⟩ := hx
  have hx0 : x ≠ 0 := by rintro rfl; simp at hy; omega
  have hy0 : y ≠ 0 := by rintro rfl; simp at hy; omega
  have hy1 : y ≠ 1 := by rintro rfl; simp at hy; exact hx2 hy.symm
  have kx : k ≤ x := by
    rcases Nat.lt_or_ge x k with h | h
    · exact absurd hx' (hall x h (by omega))
    · exact h
  have ky : k ≤ y := by
    rcases Nat.lt_or_ge y k with h | h
    · exact absurd ⟨x, by rw [hy, Nat.mul_comm]⟩ (hall y h (by omega))
    · exact h
  have := Nat.mul_le_mul kx ky
  omega

def thePrime : Nat := 115792089237316195423570985008687907853269984665640564039457584007913129603823
def theOrder : Nat := 57896044618658097711785492504343953926634992332820282019728792003956564801911

theorem pr0 : Pr 213319 := small 462 (by decide) (by decide) (by decide +kernel)
theorem pr1 : Pr 2155375177 := pock' (F := 213319) (R := 10104) (a := 2) (k := 40) pr0 (by decide +kernel) (by decide) (by decide +kernel) (by decide +kernel) (by decide +kernel) (by decide +kernel)
theorem pr2 : Pr 59483944987587859 := pock' (F := 2155375177) (R := 27597954) (a := 2) (k := 64) pr1 (by decide +kernel) (by decide) (by decide +kernel) (by decide +kernel) (by decide +kernel) (by decide +kernel)
theorem pr3 : Pr 1202684276868524221513588244947 := pock' (F := 59483944987587859) (R := 20218636761894) (a := 2) (k := 104) pr2 (by decide +kernel) (by decide) (by decide +kernel) (by decide +kernel) (by decide +kernel) (by decide +kernel)
theorem pr4 : Pr 3201964079152361724098258636758155557 := pock' (F := 1202684276868524221513588244947) (R := 2662348) (a := 2) (k := 128) pr3 (by decide +kernel) (by decide) (by decide +kernel) (by decide +kernel) (by decide +kernel) (by decide +kernel)
theorem pr5 : Pr 2848630210554880446022254608450222949126931851754251657020267 := pock' (F := 3201964079152361724098258636758155557) (R := 889650895555637400306338) (a := 2) (k := 208) pr4 (by decide +kernel) (by decide) (by decide +kernel) (by decide +kernel) (by decide +kernel) (by decide +kernel)
theorem pr6 : Pr theOrder := pock' (F := 2848630210554880446022254608450222949126931851754251657020267) (R := 20324169983221730) (a := 2) (k := 256) pr5 (by decide +kernel) (by decide) (by decide +kernel) (by decide +kernel) (by decide +kernel) (by decide +kernel)
theorem pr7 : Pr thePrime := pock' (F := theOrder) (R := 2) (a := 2) (k := 256) pr6 (by decide +kernel) (by decide) (by decide +kernel) (by decide +kernel) (by decide +kernel) (by decide +kernel)
end Go.Nt
/- The group: order, members, inverses, scalars. -/
namespace Go.Proofs
open Go.SE

set_option maxHeartbeats 2000000 in
theorem wshrRef (n k : Nat) (hn : n < 115792089237316195423570985008687907853269984665640564039457584007913129639936) (hk : 0 < k ∧ k < 256) : SCall Tryd.prog 83 [(.arr 4 (.int .u64), u256 n), (.int .i64, .n k)] (fun rs => rs = [.d (.arr 4 (.int .u64)) (u256 (n / 2 ^ k))]) := by
  refine scall_intro (n := 34) (rl := [.cell 4 45]) (us := [45]) Tryd.hT Tryd.func83 rfl rfl rfl rfl rfl (Nat.le_of_ble_eq_true rfl) ?_
  intro w0 hL0
  simp -dsimp -implicitDefEqProofs (disch := omega) only [↓reduceIte, ↓gA, gB, refs, den, hasTy, Ty.cmp, Ty.depth, reduceCtorEq, Nat.reduceAdd, Nat.reduceSub, Nat.reduceMul, Nat.reduceEqDiff, Nat.reduceLT, Nat.reduceLeDiff, Nat.reduceMod, Nat.reduceDiv, Nat.reducePow, Nat.reduceBEq, Int.reduceToNat, Int.reduceLE, Int.reduceLT, Int.reduceEq, Int.reduceAdd, Int.reduceMul, Int.reduceSub, Int.reduceNeg, Int.reduceNe, Tryd.TS, Tryd.EV, rep4]
  refine HIf_dec (a := ()) (b := ()) (fun h => by omega) (fun _ => ?_)
  simp -dsimp -implicitDefEqProofs (disch := omega) only [↓reduceIte, ↓gA, gB, refs, den, hasTy, Ty.cmp, Ty.depth, reduceCtorEq, Nat.reduceAdd, Nat.reduceSub, Nat.reduceMul, Nat.reduceEqDiff, Nat.reduceLT, Nat.reduceLeDiff, Nat.reduceMod, Nat.reduceDiv, Nat.reducePow, Nat.reduceBEq, Int.reduceToNat, Int.reduceLE, Int.reduceLT, Int.reduceEq, Int.reduceAdd, Int.reduceMul, Int.reduceSub, Int.reduceNeg, Int.reduceNe, Tryd.TS, Tryd.EV, rep4]
  refine HIf_dec (a := ()) (b := ()) (fun h => by omega) (fun _ => ?_)
  simp -dsimp -implicitDefEqProofs (disch := omega) only [↓reduceIte, ↓gA, gB, refs, den, hasTy, Ty.cmp, Ty.depth, reduceCtorEq, Nat.reduceAdd, Nat.reduceSub, Nat.reduceMul, Nat.reduceEqDiff, Nat.reduceLT, Nat.reduceLeDiff, Nat.reduceMod, Nat.reduceDiv, Nat.reducePow, Nat.reduceBEq, Int.reduceToNat, Int.reduceLE, Int.reduceLT, Int.reduceEq, Int.reduceAdd, Int.reduceMul, Int.reduceSub, Int.reduceNeg, Int.reduceNe, Tryd.TS, Tryd.EV, rep4]
  have hdlt : n / 2 ^ k < 2 ^ (256 - k) := Nat.div_lt_of_lt_mul (by rw [← Nat.pow_add, show k + (256 - k) = 256 by omega]; exact hn)
  refine sloop Tryd.hT (α := Nat) (fun i => ⟨34, [(1, .v (.d (.int .i64) (.n k))), (2, .v (.ptr 0 [])), (4, .v (.ptr 1 [])), (5, .v (.ptr 2 [])), (6, .v (.d (.int .i64) (.n i)))], [(0, ⟨.arr 4 (.int .u64), .d (.arr 4 (.int .u64)) (u256 n)⟩), (1, ⟨.arr 4 (.int .u64), .d (.arr 4 (.int .u64)) (.l [.n 0, .n 0, .n 0, .n 0])⟩), (2, ⟨.arr 4 (.int .u64), .d (.arr 4 (.int .u64)) (u256 (n / 2 ^ k % 2 ^ i))⟩)], 3⟩) (fun i => i + k ≤ 256) (fun i => 256 - k - i) 0 ?_ (by omega) ?_
  · refine sub_ren w0 hL0 [(0, 0), (1, 1), (2, 2)] rfl rfl (by simp [keysLt]) rfl ?_ ?_
    · simp [renTm, Go.SE.look, renTV, renSV]
    · simp [renOb, Go.SE.look, renSV, u256_zero, Nat.mod_one]
  intro i hi
  simp -dsimp -implicitDefEqProofs (disch := omega) only [↓reduceIte, ↓gA, gB, refs, den, hasTy, Ty.cmp, Ty.depth, reduceCtorEq, Nat.reduceAdd, Nat.reduceSub, Nat.reduceMul, Nat.reduceEqDiff, Nat.reduceLT, Nat.reduceLeDiff, Nat.reduceMod, Nat.reduceDiv, Nat.reducePow, Nat.reduceBEq, Int.reduceToNat, Int.reduceLE, Int.reduceLT, Int.reduceEq, Int.reduceAdd, Int.reduceMul, Int.reduceSub, Int.reduceNeg, Int.reduceNe, Tryd.TS, Tryd.EV, addN]
  refine HIf_dec (a := ()) (b := ()) (fun h => ?_) (fun h => ?_)
  · have hi4 : i / 64 < 4 := by omega
    have hlt : n / 2 ^ k % 2 ^ i < 2 ^ i := Nat.mod_lt _ (Nat.two_pow_pos i)
    have hle : 2 ^ i ≤ 2 ^ 255 := Nat.pow_le_pow_right (by omega) (by omega)
    have hlim : n / 2 ^ k % 2 ^ i < 115792089237316195423570985008687907853269984665640564039457584007913129639936 := by omega
    have hbit : n / 2 ^ (i + k) % 2 = n / 2 ^ k / 2 ^ i % 2 := by rw [Nat.add_comm, Nat.pow_add, Nat.div_div_eq_div_mul]
    have hset := u256_set (N := n / 2 ^ k % 2 ^ i) (i := i) hlim (by omega) (by rw [Nat.div_eq_of_lt hlt])
    have hmod := bits_mod (e := n / 2 ^ k) (i := i)
    simp -dsimp -implicitDefEqProofs (disch := omega) only [↓reduceIte, ↓gA, gB, refs, den, hasTy, Ty.cmp, Ty.depth, reduceCtorEq, Nat.reduceAdd, Nat.reduceSub, Nat.reduceMul, Nat.reduceEqDiff, Nat.reduceLT, Nat.reduceLeDiff, Nat.reduceMod, Nat.reduceDiv, Nat.reducePow, Nat.reduceBEq, Int.reduceToNat, Int.reduceLE, Int.reduceLT, Int.reduceEq, Int.reduceAdd, Int.reduceMul, Int.reduceSub, Int.reduceNeg, Int.reduceNe, Tryd.TS, Tryd.EV, addN]
    first | (with_reducible refine HCall_mono (wbitRef n (i + k) (by omega)) ?_; rintro rs rfl) | (with_reducible refine HCallF_mono (wbitRef n (i + k) (by omega)) (by first | rfl | simp [flatR, RV.flat, RV.isD, Ty.flat]) ?_) | (refine SCall.mono (wbitRef n (i + k) (by omega)) ?_; rintro rs rfl)
    rw [hbit]
    simp -dsimp -implicitDefEqProofs (disch := omega) only [↓reduceIte, ↓gA, gB, refs, den, hasTy, Ty.cmp, Ty.depth, reduceCtorEq, Nat.reduceAdd, Nat.reduceSub, Nat.reduceMul, Nat.reduceEqDiff, Nat.reduceLT, Nat.reduceLeDiff, Nat.reduceMod, Nat.reduceDiv, Nat.reducePow, Nat.reduceBEq, Int.reduceToNat, Int.reduceLE, Int.reduceLT, Int.reduceEq, Int.reduceAdd, Int.reduceMul, Int.reduceSub, Int.reduceNeg, Int.reduceNe, Tryd.TS, Tryd.EV]
    refine HIf_dec (a := ()) (b := ()) (fun hb => ?_) (fun hb => ?_)
    · simp -dsimp -implicitDefEqProofs (disch := omega) only [↓reduceIte, ↓gA, gB, refs, den, hasTy, Ty.cmp, Ty.depth, reduceCtorEq, Nat.reduceAdd, Nat.reduceSub, Nat.reduceMul, Nat.reduceEqDiff, Nat.reduceLT, Nat.reduceLeDiff, Nat.reduceMod, Nat.reduceDiv, Nat.reducePow, Nat.reduceBEq, Int.reduceToNat, Int.reduceLE, Int.reduceLT, Int.reduceEq, Int.reduceAdd, Int.reduceMul, Int.reduceSub, Int.reduceNeg, Int.reduceNe, Tryd.TS, Tryd.EV]
      refine sdraw (id := 10) Tryd.hT (by kernel_rfl) [9] [] [0, 1, 2, 3, 4, 5, 6, 7, 8, 9] (by kernel_rfl) (by kernel_rfl) (by kernel_rfl) ?_; simp only [gK, ↓reduceIte, Nat.reduceEqDiff]
      simp -dsimp -implicitDefEqProofs (disch := omega) only [↓reduceIte, ↓gA, gB, refs, den, hasTy, Ty.cmp, Ty.depth, reduceCtorEq, Nat.reduceAdd, Nat.reduceSub, Nat.reduceMul, Nat.reduceEqDiff, Nat.reduceLT, Nat.reduceLeDiff, Nat.reduceMod, Nat.reduceDiv, Nat.reducePow, Nat.reduceBEq, Int.reduceToNat, Int.reduceLE, Int.reduceLT, Int.reduceEq, Int.reduceAdd, Int.reduceMul, Int.reduceSub, Int.reduceNeg, Int.reduceNe, Tryd.TS, Tryd.EV, td64, tm64, u256_at _ hi4, u256_list, hset]
      repeat (refine And.intro (by omega) ?_)
      refine ⟨i + 1, by omega, by omega, ?_⟩
      rw [hb, Nat.mul_one] at hmod
      rw [hmod]
      first | (refine sub_ren w0 hL0 [(0, 0), (1, 1), (2, 2)] rfl rfl ?_ rfl ?_ ?_; (focus (simp [keysLt]; done)); (focus (simp [renTm, Go.SE.look, renTV, renSV]; done)); (focus (simp [renOb, Go.SE.look, renSV]; done)))
    · have hb0 : n / 2 ^ k / 2 ^ i % 2 = 0 := by generalize n / 2 ^ k / 2 ^ i = q at *; omega
      simp -dsimp -implicitDefEqProofs (disch := omega) only [↓reduceIte, ↓gA, gB, refs, den, hasTy, Ty.cmp, Ty.depth, reduceCtorEq, Nat.reduceAdd, Nat.reduceSub, Nat.reduceMul, Nat.reduceEqDiff, Nat.reduceLT, Nat.reduceLeDiff, Nat.reduceMod, Nat.reduceDiv, Nat.reducePow, Nat.reduceBEq, Int.reduceToNat, Int.reduceLE, Int.reduceLT, Int.reduceEq, Int.reduceAdd, Int.reduceMul, Int.reduceSub, Int.reduceNeg, Int.reduceNe, Tryd.TS, Tryd.EV]
      refine ⟨i + 1, by omega, by omega, ?_⟩
      rw [hb0, Nat.mul_zero, Nat.add_zero] at hmod
      rw [hmod]
      first | (refine sub_ren w0 hL0 [(0, 0), (1, 1), (2, 2)] rfl rfl ?_ rfl ?_ ?_; (focus (simp [keysLt]; done)); (focus (simp [renTm, Go.SE.look, renTV, renSV]; done)); (focus (simp [renOb, Go.SE.look, renSV]; done)))
  · have hik : i = 256 - k := by omega
    subst hik
    simp -dsimp -implicitDefEqProofs (disch := omega) only [↓reduceIte, ↓gA, gB, refs, den, hasTy, Ty.cmp, Ty.depth, reduceCtorEq, Nat.reduceAdd, Nat.reduceSub, Nat.reduceMul, Nat.reduceEqDiff, Nat.reduceLT, Nat.reduceLeDiff, Nat.reduceMod, Nat.reduceDiv, Nat.reducePow, Nat.reduceBEq, Int.reduceToNat, Int.reduceLE, Int.reduceLT, Int.reduceEq, Int.reduceAdd, Int.reduceMul, Int.reduceSub, Int.reduceNeg, Int.reduceNe, Tryd.TS, Tryd.EV]
    rw [Nat.mod_eq_of_lt hdlt]

set_option maxHeartbeats 1000000 in
theorem gorderRef : SCall Tryd.prog 45 [] (fun rs => rs = [.d (.arr 4 (.int .u64)) (u256 57896044618658097711785492504343953926634992332820282019728792003956564801911)]) := by
  have hs : SCall Tryd.prog 83 [(.arr 4 (.int .u64), u256 115792089237316195423570985008687907853269984665640564039457584007913129603823), (.int .i64, .n 1)] (fun rs => rs = [.d (.arr 4 (.int .u64)) (u256 57896044618658097711785492504343953926634992332820282019728792003956564801911)]) := wshrRef 115792089237316195423570985008687907853269984665640564039457584007913129603823 1 (by omega) (by omega)
  refine scall_intro (n := 3) (rl := [.cell 0 45]) (us := [45]) Tryd.hT Tryd.func45 rfl rfl rfl rfl rfl (Nat.le_of_ble_eq_true rfl) ?_
  intro w0 hL0
  simp -dsimp -implicitDefEqProofs (disch := omega) only [↓reduceIte, ↓gA, gB, refs, den, hasTy, Ty.cmp, Ty.depth, reduceCtorEq, Nat.reduceAdd, Nat.reduceSub, Nat.reduceMul, Nat.reduceEqDiff, Nat.reduceLT, Nat.reduceLeDiff, Nat.reduceMod, Nat.reduceDiv, Nat.reducePow, Nat.reduceBEq, Int.reduceToNat, Int.reduceLE, Int.reduceLT, Int.reduceEq, Int.reduceAdd, Int.reduceMul, Int.reduceSub, Int.reduceNeg, Int.reduceNe, Tryd.TS, Tryd.EV, rep4]
  first | (with_reducible refine HCall_mono (gmodulusRef) ?_; rintro rs rfl) | (with_reducible refine HCallF_mono (gmodulusRef) (by first | rfl | simp [flatR, RV.flat, RV.isD, Ty.flat]) ?_) | (refine SCall.mono (gmodulusRef) ?_; rintro rs rfl)
  simp -dsimp -implicitDefEqProofs (disch := omega) only [↓reduceIte, ↓gA, gB, refs, den, hasTy, Ty.cmp, Ty.depth, reduceCtorEq, Nat.reduceAdd, Nat.reduceSub, Nat.reduceMul, Nat.reduceEqDiff, Nat.reduceLT, Nat.reduceLeDiff, Nat.reduceMod, Nat.reduceDiv, Nat.reducePow, Nat.reduceBEq, Int.reduceToNat, Int.reduceLE, Int.reduceLT, Int.reduceEq, Int.reduceAdd, Int.reduceMul, Int.reduceSub, Int.reduceNeg, Int.reduceNe, Tryd.TS, Tryd.EV]
  first | (with_reducible refine HCall_mono (hs) ?_; rintro rs rfl) | (with_reducible refine HCallF_mono (hs) (by first | rfl | simp [flatR, RV.flat, RV.isD, Ty.flat]) ?_) | (refine SCall.mono (hs) ?_; rintro rs rfl)
  simp -dsimp -implicitDefEqProofs (disch := omega) only [↓reduceIte, ↓gA, gB, refs, den, hasTy, Ty.cmp, Ty.depth, reduceCtorEq, Nat.reduceAdd, Nat.reduceSub, Nat.reduceMul, Nat.reduceEqDiff, Nat.reduceLT, Nat.reduceLeDiff, Nat.reduceMod, Nat.reduceDiv, Nat.reducePow, Nat.reduceBEq, Int.reduceToNat, Int.reduceLE, Int.reduceLT, Int.reduceEq, Int.reduceAdd, Int.reduceMul, Int.reduceSub, Int.reduceNeg, Int.reduceNe, Tryd.TS, Tryd.EV]

set_option maxHeartbeats 1000000 in
theorem gexpRef (a e : Nat) (ha : a < 115792089237316195423570985008687907853269984665640564039457584007913129639936) (he : e < 115792089237316195423570985008687907853269984665640564039457584007913129639936) : SCall Tryd.prog 54 [(.arr 4 (.int .u64), u256 a), (.arr 4 (.int .u64), u256 e)] (fun rs => rs = [.d (.arr 4 (.int .u64)) (u256 (a ^ e % 115792089237316195423570985008687907853269984665640564039457584007913129603823))]) := by
  refine scall_intro (n := 9) (rl := [.cell 4 45]) (us := [45]) Tryd.hT Tryd.func54 rfl rfl rfl rfl rfl (Nat.le_of_ble_eq_true rfl) ?_
  intro w0 hL0
  simp -dsimp -implicitDefEqProofs (disch := omega) only [↓reduceIte, ↓gA, gB, refs, den, hasTy, Ty.cmp, Ty.depth, reduceCtorEq, Nat.reduceAdd, Nat.reduceSub, Nat.reduceMul, Nat.reduceEqDiff, Nat.reduceLT, Nat.reduceLeDiff, Nat.reduceMod, Nat.reduceDiv, Nat.reducePow, Nat.reduceBEq, Int.reduceToNat, Int.reduceLE, Int.reduceLT, Int.reduceEq, Int.reduceAdd, Int.reduceMul, Int.reduceSub, Int.reduceNeg, Int.reduceNe, Tryd.TS, Tryd.EV, rep4]
  refine sdraw (id := 1) Tryd.hT (by kernel_rfl) [4] [] [0, 1, 2, 3, 4] (by kernel_rfl) (by kernel_rfl) (by kernel_rfl) ?_; simp only [gK, ↓reduceIte, Nat.reduceEqDiff]
  simp -dsimp -implicitDefEqProofs (disch := omega) only [↓reduceIte, ↓gA, gB, refs, den, hasTy, Ty.cmp, Ty.depth, reduceCtorEq, Nat.reduceAdd, Nat.reduceSub, Nat.reduceMul, Nat.reduceEqDiff, Nat.reduceLT, Nat.reduceLeDiff, Nat.reduceMod, Nat.reduceDiv, Nat.reducePow, Nat.reduceBEq, Int.reduceToNat, Int.reduceLE, Int.reduceLT, Int.reduceEq, Int.reduceAdd, Int.reduceMul, Int.reduceSub, Int.reduceNeg, Int.reduceNe, Tryd.TS, Tryd.EV]
  first | (with_reducible refine HCall_mono (gmodulusRef) ?_; rintro rs rfl) | (with_reducible refine HCallF_mono (gmodulusRef) (by first | rfl | simp [flatR, RV.flat, RV.isD, Ty.flat]) ?_) | (refine SCall.mono (gmodulusRef) ?_; rintro rs rfl)
  simp -dsimp -implicitDefEqProofs (disch := omega) only [↓reduceIte, ↓gA, gB, refs, den, hasTy, Ty.cmp, Ty.depth, reduceCtorEq, Nat.reduceAdd, Nat.reduceSub, Nat.reduceMul, Nat.reduceEqDiff, Nat.reduceLT, Nat.reduceLeDiff, Nat.reduceMod, Nat.reduceDiv, Nat.reducePow, Nat.reduceBEq, Int.reduceToNat, Int.reduceLE, Int.reduceLT, Int.reduceEq, Int.reduceAdd, Int.reduceMul, Int.reduceSub, Int.reduceNeg, Int.reduceNe, Tryd.TS, Tryd.EV]
  first | (with_reducible refine HCall_mono (wexpmodRef a e 115792089237316195423570985008687907853269984665640564039457584007913129603823 ha he (by omega) (by omega)) ?_; rintro rs rfl) | (with_reducible refine HCallF_mono (wexpmodRef a e 115792089237316195423570985008687907853269984665640564039457584007913129603823 ha he (by omega) (by omega)) (by first | rfl | simp [flatR, RV.flat, RV.isD, Ty.flat]) ?_) | (refine SCall.mono (wexpmodRef a e 115792089237316195423570985008687907853269984665640564039457584007913129603823 ha he (by omega) (by omega)) ?_; rintro rs rfl)
  simp -dsimp -implicitDefEqProofs (disch := omega) only [↓reduceIte, ↓gA, gB, refs, den, hasTy, Ty.cmp, Ty.depth, reduceCtorEq, Nat.reduceAdd, Nat.reduceSub, Nat.reduceMul, Nat.reduceEqDiff, Nat.reduceLT, Nat.reduceLeDiff, Nat.reduceMod, Nat.reduceDiv, Nat.reducePow, Nat.reduceBEq, Int.reduceToNat, Int.reduceLE, Int.reduceLT, Int.reduceEq, Int.reduceAdd, Int.reduceMul, Int.reduceSub, Int.reduceNeg, Int.reduceNe, Tryd.TS, Tryd.EV]

theorem and_dec {p q : Prop} [Decidable p] [Decidable q] : (decide p && decide q) = decide (p ∧ q) := by simp

/-- Whether a number is a member. -/
def mem (q a : Nat) : Bool := decide (a ≠ 0) && (decide (a < 115792089237316195423570985008687907853269984665640564039457584007913129603823) && decide (a ^ q % 115792089237316195423570985008687907853269984665640564039457584007913129603823 = 1))

set_option maxHeartbeats 1000000 in
theorem gmember (a q : Nat) (ha : a < 115792089237316195423570985008687907853269984665640564039457584007913129639936) (hq : q = 57896044618658097711785492504343953926634992332820282019728792003956564801911) : SCall Tryd.prog 47 [(.arr 4 (.int .u64), u256 a)] (fun rs => rs = [.d .bool (.b (mem q a))]) := by
  have ho : SCall Tryd.prog 76 [] (fun rs => rs = [.d (.arr 4 (.int .u64)) (u256 q)]) := hq ▸ gorder
  have hf : SCall Tryd.prog 46 [(.int .u64, .n 1)] (fun rs => rs = [.d (.arr 4 (.int .u64)) (u256 1)]) := fromUint 1 (by omega)
  have hlt : a ^ q % 115792089237316195423570985008687907853269984665640564039457584007913129603823 < 115792089237316195423570985008687907853269984665640564039457584007913129639936 := Nat.lt_trans (Nat.mod_lt _ (by omega)) (show 115792089237316195423570985008687907853269984665640564039457584007913129603823 < 115792089237316195423570985008687907853269984665640564039457584007913129639936 by omega)
  unfold mem
  refine scall_intro (n := 19) (rl := [.tmp 2]) (us := [4]) Tryd.hT Tryd.func47 rfl rfl rfl rfl rfl (Nat.le_of_ble_eq_true rfl) ?_
  intro w0 hL0
  simp -dsimp -implicitDefEqProofs (disch := omega) only [↓reduceIte, ↓gA, gB, refs, den, hasTy, Ty.cmp, Ty.depth, reduceCtorEq, Nat.reduceAdd, Nat.reduceSub, Nat.reduceMul, Nat.reduceEqDiff, Nat.reduceLT, Nat.reduceLeDiff, Nat.reduceMod, Nat.reduceDiv, Nat.reducePow, Nat.reduceBEq, Int.reduceToNat, Int.reduceLE, Int.reduceLT, Int.reduceEq, Int.reduceAdd, Int.reduceMul, Int.reduceSub, Int.reduceNeg, Int.reduceNe, Tryd.TS, Tryd.EV, rep4]
  refine sdraw (id := 1) Tryd.hT (by kernel_rfl) [] [] [0, 1, 2, 3, 4, 5, 6, 7, 8, 9, 10, 11, 12, 13, 14, 15, 16] (by kernel_rfl) (by kernel_rfl) (by kernel_rfl) ?_; simp only [gK, ↓reduceIte, Nat.reduceEqDiff]
  simp -dsimp -implicitDefEqProofs (disch := omega) only [↓reduceIte, ↓gA, gB, refs, den, hasTy, Ty.cmp, Ty.depth, reduceCtorEq, Nat.reduceAdd, Nat.reduceSub, Nat.reduceMul, Nat.reduceEqDiff, Nat.reduceLT, Nat.reduceLeDiff, Nat.reduceMod, Nat.reduceDiv, Nat.reducePow, Nat.reduceBEq, Int.reduceToNat, Int.reduceLE, Int.reduceLT, Int.reduceEq, Int.reduceAdd, Int.reduceMul, Int.reduceSub, Int.reduceNeg, Int.reduceNe, Tryd.TS, Tryd.EV, rep4, u256_zero, u256_inj ha (show 0 < 115792089237316195423570985008687907853269984665640564039457584007913129639936 by omega)]
  refine HIf_ndec (a := ()) (b := ()) (fun h => ?_) (fun h => ?_)
  · have h0 : a ≠ 0 := by omega
    simp -dsimp -implicitDefEqProofs (disch := omega) only [↓reduceIte, ↓gA, gB, refs, den, hasTy, Ty.cmp, Ty.depth, reduceCtorEq, Nat.reduceAdd, Nat.reduceSub, Nat.reduceMul, Nat.reduceEqDiff, Nat.reduceLT, Nat.reduceLeDiff, Nat.reduceMod, Nat.reduceDiv, Nat.reducePow, Nat.reduceBEq, Int.reduceToNat, Int.reduceLE, Int.reduceLT, Int.reduceEq, Int.reduceAdd, Int.reduceMul, Int.reduceSub, Int.reduceNeg, Int.reduceNe, Tryd.TS, Tryd.EV]
    first | (with_reducible refine HCall_mono (gmodulus) ?_; rintro rs rfl) | (with_reducible refine HCallF_mono (gmodulus) (by first | rfl | simp [flatR, RV.flat, RV.isD, Ty.flat]) ?_) | (refine SCall.mono (gmodulus) ?_; rintro rs rfl)
    simp -dsimp -implicitDefEqProofs (disch := omega) only [↓reduceIte, ↓gA, gB, refs, den, hasTy, Ty.cmp, Ty.depth, reduceCtorEq, Nat.reduceAdd, Nat.reduceSub, Nat.reduceMul, Nat.reduceEqDiff, Nat.reduceLT, Nat.reduceLeDiff, Nat.reduceMod, Nat.reduceDiv, Nat.reducePow, Nat.reduceBEq, Int.reduceToNat, Int.reduceLE, Int.reduceLT, Int.reduceEq, Int.reduceAdd, Int.reduceMul, Int.reduceSub, Int.reduceNeg, Int.reduceNe, Tryd.TS, Tryd.EV]
    first | (with_reducible refine HCall_mono (wcmp a 115792089237316195423570985008687907853269984665640564039457584007913129603823 ha (by omega)) ?_; rintro rs rfl) | (with_reducible refine HCallF_mono (wcmp a 115792089237316195423570985008687907853269984665640564039457584007913129603823 ha (by omega)) (by first | rfl | simp [flatR, RV.flat, RV.isD, Ty.flat]) ?_) | (refine SCall.mono (wcmp a 115792089237316195423570985008687907853269984665640564039457584007913129603823 ha (by omega)) ?_; rintro rs rfl)
    simp -dsimp -implicitDefEqProofs (disch := omega) only [↓reduceIte, ↓gA, gB, refs, den, hasTy, Ty.cmp, Ty.depth, reduceCtorEq, Nat.reduceAdd, Nat.reduceSub, Nat.reduceMul, Nat.reduceEqDiff, Nat.reduceLT, Nat.reduceLeDiff, Nat.reduceMod, Nat.reduceDiv, Nat.reducePow, Nat.reduceBEq, Int.reduceToNat, Int.reduceLE, Int.reduceLT, Int.reduceEq, Int.reduceAdd, Int.reduceMul, Int.reduceSub, Int.reduceNeg, Int.reduceNe, Tryd.TS, Tryd.EV]
    have hd : decide ((if a < 115792089237316195423570985008687907853269984665640564039457584007913129603823 then (-1 : Int) else if 115792089237316195423570985008687907853269984665640564039457584007913129603823 < a then 1 else 0) < 0) = decide (a < 115792089237316195423570985008687907853269984665640564039457584007913129603823) := decide_eq_decide.2 (by split <;> (try split) <;> omega)
    rw [hd]
    refine HIf_dec (a := ()) (b := ()) (fun h2 => ?_) (fun h2 => ?_)
    · simp -dsimp -implicitDefEqProofs (disch := omega) only [↓reduceIte, ↓gA, gB, refs, den, hasTy, Ty.cmp, Ty.depth, reduceCtorEq, Nat.reduceAdd, Nat.reduceSub, Nat.reduceMul, Nat.reduceEqDiff, Nat.reduceLT, Nat.reduceLeDiff, Nat.reduceMod, Nat.reduceDiv, Nat.reducePow, Nat.reduceBEq, Int.reduceToNat, Int.reduceLE, Int.reduceLT, Int.reduceEq, Int.reduceAdd, Int.reduceMul, Int.reduceSub, Int.reduceNeg, Int.reduceNe, Tryd.TS, Tryd.EV]
      first | (with_reducible refine HCall_mono (ho) ?_; rintro rs rfl) | (with_reducible refine HCallF_mono (ho) (by first | rfl | simp [flatR, RV.flat, RV.isD, Ty.flat]) ?_) | (refine SCall.mono (ho) ?_; rintro rs rfl)
      simp -dsimp -implicitDefEqProofs (disch := omega) only [↓reduceIte, ↓gA, gB, refs, den, hasTy, Ty.cmp, Ty.depth, reduceCtorEq, Nat.reduceAdd, Nat.reduceSub, Nat.reduceMul, Nat.reduceEqDiff, Nat.reduceLT, Nat.reduceLeDiff, Nat.reduceMod, Nat.reduceDiv, Nat.reducePow, Nat.reduceBEq, Int.reduceToNat, Int.reduceLE, Int.reduceLT, Int.reduceEq, Int.reduceAdd, Int.reduceMul, Int.reduceSub, Int.reduceNeg, Int.reduceNe, Tryd.TS, Tryd.EV]
      first | (with_reducible refine HCall_mono (gexp a q ha (by omega)) ?_; rintro rs rfl) | (with_reducible refine HCallF_mono (gexp a q ha (by omega)) (by first | rfl | simp [flatR, RV.flat, RV.isD, Ty.flat]) ?_) | (refine SCall.mono (gexp a q ha (by omega)) ?_; rintro rs rfl)
      simp -dsimp -implicitDefEqProofs (disch := omega) only [↓reduceIte, ↓gA, gB, refs, den, hasTy, Ty.cmp, Ty.depth, reduceCtorEq, Nat.reduceAdd, Nat.reduceSub, Nat.reduceMul, Nat.reduceEqDiff, Nat.reduceLT, Nat.reduceLeDiff, Nat.reduceMod, Nat.reduceDiv, Nat.reducePow, Nat.reduceBEq, Int.reduceToNat, Int.reduceLE, Int.reduceLT, Int.reduceEq, Int.reduceAdd, Int.reduceMul, Int.reduceSub, Int.reduceNeg, Int.reduceNe, Tryd.TS, Tryd.EV]
      first | (with_reducible refine HCall_mono (hf) ?_; rintro rs rfl) | (with_reducible refine HCallF_mono (hf) (by first | rfl | simp [flatR, RV.flat, RV.isD, Ty.flat]) ?_) | (refine SCall.mono (hf) ?_; rintro rs rfl)
      simp -dsimp -implicitDefEqProofs (disch := omega) only [↓reduceIte, ↓gA, gB, refs, den, hasTy, Ty.cmp, Ty.depth, reduceCtorEq, Nat.reduceAdd, Nat.reduceSub, Nat.reduceMul, Nat.reduceEqDiff, Nat.reduceLT, Nat.reduceLeDiff, Nat.reduceMod, Nat.reduceDiv, Nat.reducePow, Nat.reduceBEq, Int.reduceToNat, Int.reduceLE, Int.reduceLT, Int.reduceEq, Int.reduceAdd, Int.reduceMul, Int.reduceSub, Int.reduceNeg, Int.reduceNe, Tryd.TS, Tryd.EV, u256_inj hlt (show 1 < 115792089237316195423570985008687907853269984665640564039457584007913129639936 by omega)]
      simp [h0, h2]
    · simp -dsimp -implicitDefEqProofs (disch := omega) only [↓reduceIte, ↓gA, gB, refs, den, hasTy, Ty.cmp, Ty.depth, reduceCtorEq, Nat.reduceAdd, Nat.reduceSub, Nat.reduceMul, Nat.reduceEqDiff, Nat.reduceLT, Nat.reduceLeDiff, Nat.reduceMod, Nat.reduceDiv, Nat.reducePow, Nat.reduceBEq, Int.reduceToNat, Int.reduceLE, Int.reduceLT, Int.reduceEq, Int.reduceAdd, Int.reduceMul, Int.reduceSub, Int.reduceNeg, Int.reduceNe, Tryd.TS, Tryd.EV]
      simp [h0, h2]
  · simp -dsimp -implicitDefEqProofs (disch := omega) only [↓reduceIte, ↓gA, gB, refs, den, hasTy, Ty.cmp, Ty.depth, reduceCtorEq, Nat.reduceAdd, Nat.reduceSub, Nat.reduceMul, Nat.reduceEqDiff, Nat.reduceLT, Nat.reduceLeDiff, Nat.reduceMod, Nat.reduceDiv, Nat.reducePow, Nat.reduceBEq, Int.reduceToNat, Int.reduceLE, Int.reduceLT, Int.reduceEq, Int.reduceAdd, Int.reduceMul, Int.reduceSub, Int.reduceNeg, Int.reduceNe, Tryd.TS, Tryd.EV]
    have h0 : a = 0 := by omega
    subst h0
    simp
end Go.Proofs
/- The group: members by the reference, powers of the generator, the sanity check. -/
namespace Go.Proofs
open Go.SE

set_option maxHeartbeats 1000000 in
theorem goneRef : SCall Tryd.prog 117 [] (fun rs => rs = [.d (.arr 4 (.int .u64)) (u256 1)]) := by
  have hf : SCall Tryd.prog 64 [(.int .u64, .n 1)] (fun rs => rs = [.d (.arr 4 (.int .u64)) (u256 1)]) := fromUintRef 1 (by omega)
  refine scall_intro (n := 2) (rl := [.cell 0 45]) (us := [45]) Tryd.hT Tryd.func117 rfl rfl rfl rfl rfl (Nat.le_of_ble_eq_true rfl) ?_
  intro w0 hL0
  simp -dsimp -implicitDefEqProofs (disch := omega) only [↓reduceIte, ↓gA, gB, refs, den, hasTy, Ty.cmp, Ty.depth, reduceCtorEq, Nat.reduceAdd, Nat.reduceSub, Nat.reduceMul, Nat.reduceEqDiff, Nat.reduceLT, Nat.reduceLeDiff, Nat.reduceMod, Nat.reduceDiv, Nat.reducePow, Nat.reduceBEq, Int.reduceToNat, Int.reduceLE, Int.reduceLT, Int.reduceEq, Int.reduceAdd, Int.reduceMul, Int.reduceSub, Int.reduceNeg, Int.reduceNe, Tryd.TS, Tryd.EV, rep4]
  first | (with_reducible refine HCall_mono (hf) ?_; rintro rs rfl) | (with_reducible refine HCallF_mono (hf) (by first | rfl | simp [flatR, RV.flat, RV.isD, Ty.flat]) ?_) | (refine SCall.mono (hf) ?_; rintro rs rfl)
  simp -dsimp -implicitDefEqProofs (disch := omega) only [↓reduceIte, ↓gA, gB, refs, den, hasTy, Ty.cmp, Ty.depth, reduceCtorEq, Nat.reduceAdd, Nat.reduceSub, Nat.reduceMul, Nat.reduceEqDiff, Nat.reduceLT, Nat.reduceLeDiff, Nat.reduceMod, Nat.reduceDiv, Nat.reducePow, Nat.reduceBEq, Int.reduceToNat, Int.reduceLE, Int.reduceLT, Int.reduceEq, Int.reduceAdd, Int.reduceMul, Int.reduceSub, Int.reduceNeg, Int.reduceNe, Tryd.TS, Tryd.EV]

set_option maxHeartbeats 1000000 in
theorem gmemberRef (a q : Nat) (ha : a < 115792089237316195423570985008687907853269984665640564039457584007913129639936) (hq : q = 57896044618658097711785492504343953926634992332820282019728792003956564801911) : SCall Tryd.prog 95 [(.arr 4 (.int .u64), u256 a)] (fun rs => rs = [.d .bool (.b (mem q a))]) := by
  have ho : SCall Tryd.prog 45 [] (fun rs => rs = [.d (.arr 4 (.int .u64)) (u256 q)]) := hq ▸ gorderRef
  have hlt : a ^ q % 115792089237316195423570985008687907853269984665640564039457584007913129603823 < 115792089237316195423570985008687907853269984665640564039457584007913129639936 := Nat.lt_trans (Nat.mod_lt _ (by omega)) (show 115792089237316195423570985008687907853269984665640564039457584007913129603823 < 115792089237316195423570985008687907853269984665640564039457584007913129639936 by omega)
  unfold mem
  refine scall_intro (n := 19) (rl := [.tmp 2]) (us := [4]) Tryd.hT Tryd.func95 rfl rfl rfl rfl rfl (Nat.le_of_ble_eq_true rfl) ?_
  intro w0 hL0
  simp -dsimp -implicitDefEqProofs (disch := omega) only [↓reduceIte, ↓gA, gB, refs, den, hasTy, Ty.cmp, Ty.depth, reduceCtorEq, Nat.reduceAdd, Nat.reduceSub, Nat.reduceMul, Nat.reduceEqDiff, Nat.reduceLT, Nat.reduceLeDiff, Nat.reduceMod, Nat.reduceDiv, Nat.reducePow, Nat.reduceBEq, Int.reduceToNat, Int.reduceLE, Int.reduceLT, Int.reduceEq, Int.reduceAdd, Int.reduceMul, Int.reduceSub, Int.reduceNeg, Int.reduceNe, Tryd.TS, Tryd.EV, rep4]
  refine sdraw (id := 1) Tryd.hT (by kernel_rfl) [] [] [0, 1, 2, 3, 4, 5, 6, 7, 8, 9, 10, 11, 12, 13, 14, 15, 16] (by kernel_rfl) (by kernel_rfl) (by kernel_rfl) ?_; simp only [gK, ↓reduceIte, Nat.reduceEqDiff]
  simp -dsimp -implicitDefEqProofs (disch := omega) only [↓reduceIte, ↓gA, gB, refs, den, hasTy, Ty.cmp, Ty.depth, reduceCtorEq, Nat.reduceAdd, Nat.reduceSub, Nat.reduceMul, Nat.reduceEqDiff, Nat.reduceLT, Nat.reduceLeDiff, Nat.reduceMod, Nat.reduceDiv, Nat.reducePow, Nat.reduceBEq, Int.reduceToNat, Int.reduceLE, Int.reduceLT, Int.reduceEq, Int.reduceAdd, Int.reduceMul, Int.reduceSub, Int.reduceNeg, Int.reduceNe, Tryd.TS, Tryd.EV, rep4]
  first | (with_reducible refine HCall_mono (wzeroRef a ha) ?_; rintro rs rfl) | (with_reducible refine HCallF_mono (wzeroRef a ha) (by first | rfl | simp [flatR, RV.flat, RV.isD, Ty.flat]) ?_) | (refine SCall.mono (wzeroRef a ha) ?_; rintro rs rfl)
  simp -dsimp -implicitDefEqProofs (disch := omega) only [↓reduceIte, ↓gA, gB, refs, den, hasTy, Ty.cmp, Ty.depth, reduceCtorEq, Nat.reduceAdd, Nat.reduceSub, Nat.reduceMul, Nat.reduceEqDiff, Nat.reduceLT, Nat.reduceLeDiff, Nat.reduceMod, Nat.reduceDiv, Nat.reducePow, Nat.reduceBEq, Int.reduceToNat, Int.reduceLE, Int.reduceLT, Int.reduceEq, Int.reduceAdd, Int.reduceMul, Int.reduceSub, Int.reduceNeg, Int.reduceNe, Tryd.TS, Tryd.EV]
  refine HIf_ndec (a := ()) (b := ()) (fun h => ?_) (fun h => ?_)
  · have h0 : a ≠ 0 := by omega
    simp -dsimp -implicitDefEqProofs (disch := omega) only [↓reduceIte, ↓gA, gB, refs, den, hasTy, Ty.cmp, Ty.depth, reduceCtorEq, Nat.reduceAdd, Nat.reduceSub, Nat.reduceMul, Nat.reduceEqDiff, Nat.reduceLT, Nat.reduceLeDiff, Nat.reduceMod, Nat.reduceDiv, Nat.reducePow, Nat.reduceBEq, Int.reduceToNat, Int.reduceLE, Int.reduceLT, Int.reduceEq, Int.reduceAdd, Int.reduceMul, Int.reduceSub, Int.reduceNeg, Int.reduceNe, Tryd.TS, Tryd.EV]
    first | (with_reducible refine HCall_mono (gmodulusRef) ?_; rintro rs rfl) | (with_reducible refine HCallF_mono (gmodulusRef) (by first | rfl | simp [flatR, RV.flat, RV.isD, Ty.flat]) ?_) | (refine SCall.mono (gmodulusRef) ?_; rintro rs rfl)
    simp -dsimp -implicitDefEqProofs (disch := omega) only [↓reduceIte, ↓gA, gB, refs, den, hasTy, Ty.cmp, Ty.depth, reduceCtorEq, Nat.reduceAdd, Nat.reduceSub, Nat.reduceMul, Nat.reduceEqDiff, Nat.reduceLT, Nat.reduceLeDiff, Nat.reduceMod, Nat.reduceDiv, Nat.reducePow, Nat.reduceBEq, Int.reduceToNat, Int.reduceLE, Int.reduceLT, Int.reduceEq, Int.reduceAdd, Int.reduceMul, Int.reduceSub, Int.reduceNeg, Int.reduceNe, Tryd.TS, Tryd.EV]
    first | (with_reducible refine HCall_mono (wcmpRef a 115792089237316195423570985008687907853269984665640564039457584007913129603823 ha (by omega)) ?_; rintro rs rfl) | (with_reducible refine HCallF_mono (wcmpRef a 115792089237316195423570985008687907853269984665640564039457584007913129603823 ha (by omega)) (by first | rfl | simp [flatR, RV.flat, RV.isD, Ty.flat]) ?_) | (refine SCall.mono (wcmpRef a 115792089237316195423570985008687907853269984665640564039457584007913129603823 ha (by omega)) ?_; rintro rs rfl)
    simp -dsimp -implicitDefEqProofs (disch := omega) only [↓reduceIte, ↓gA, gB, refs, den, hasTy, Ty.cmp, Ty.depth, reduceCtorEq, Nat.reduceAdd, Nat.reduceSub, Nat.reduceMul, Nat.reduceEqDiff, Nat.reduceLT, Nat.reduceLeDiff, Nat.reduceMod, Nat.reduceDiv, Nat.reducePow, Nat.reduceBEq, Int.reduceToNat, Int.reduceLE, Int.reduceLT, Int.reduceEq, Int.reduceAdd, Int.reduceMul, Int.reduceSub, Int.reduceNeg, Int.reduceNe, Tryd.TS, Tryd.EV]
    have hd : decide ((if a < 115792089237316195423570985008687907853269984665640564039457584007913129603823 then (-1 : Int) else if 115792089237316195423570985008687907853269984665640564039457584007913129603823 < a then 1 else 0) < 0) = decide (a < 115792089237316195423570985008687907853269984665640564039457584007913129603823) := decide_eq_decide.2 (by split <;> (try split) <;> omega)
    rw [hd]
    refine HIf_dec (a := ()) (b := ()) (fun h2 => ?_) (fun h2 => ?_)
    · simp -dsimp -implicitDefEqProofs (disch := omega) only [↓reduceIte, ↓gA, gB, refs, den, hasTy, Ty.cmp, Ty.depth, reduceCtorEq, Nat.reduceAdd, Nat.reduceSub, Nat.reduceMul, Nat.reduceEqDiff, Nat.reduceLT, Nat.reduceLeDiff, Nat.reduceMod, Nat.reduceDiv, Nat.reducePow, Nat.reduceBEq, Int.reduceToNat, Int.reduceLE, Int.reduceLT, Int.reduceEq, Int.reduceAdd, Int.reduceMul, Int.reduceSub, Int.reduceNeg, Int.reduceNe, Tryd.TS, Tryd.EV]
      first | (with_reducible refine HCall_mono (ho) ?_; rintro rs rfl) | (with_reducible refine HCallF_mono (ho) (by first | rfl | simp [flatR, RV.flat, RV.isD, Ty.flat]) ?_) | (refine SCall.mono (ho) ?_; rintro rs rfl)
      simp -dsimp -implicitDefEqProofs (disch := omega) only [↓reduceIte, ↓gA, gB, refs, den, hasTy, Ty.cmp, Ty.depth, reduceCtorEq, Nat.reduceAdd, Nat.reduceSub, Nat.reduceMul, Nat.reduceEqDiff, Nat.reduceLT, Nat.reduceLeDiff, Nat.reduceMod, Nat.reduceDiv, Nat.reducePow, Nat.reduceBEq, Int.reduceToNat, Int.reduceLE, Int.reduceLT, Int.reduceEq, Int.reduceAdd, Int.reduceMul, Int.reduceSub, Int.reduceNeg, Int.reduceNe, Tryd.TS, Tryd.EV]
      first | (with_reducible refine HCall_mono (gexpRef a q ha (by omega)) ?_; rintro rs rfl) | (with_reducible refine HCallF_mono (gexpRef a q ha (by omega)) (by first | rfl | simp [flatR, RV.flat, RV.isD, Ty.flat]) ?_) | (refine SCall.mono (gexpRef a q ha (by omega)) ?_; rintro rs rfl)
      simp -dsimp -implicitDefEqProofs (disch := omega) only [↓reduceIte, ↓gA, gB, refs, den, hasTy, Ty.cmp, Ty.depth, reduceCtorEq, Nat.reduceAdd, Nat.reduceSub, Nat.reduceMul, Nat.reduceEqDiff, Nat.reduceLT, Nat.reduceLeDiff, Nat.reduceMod, Nat.reduceDiv, Nat.reducePow, Nat.reduceBEq, Int.reduceToNat, Int.reduceLE, Int.reduceLT, Int.reduceEq, Int.reduceAdd, Int.reduceMul, Int.reduceSub, Int.reduceNeg, Int.reduceNe, Tryd.TS, Tryd.EV]
      first | (with_reducible refine HCall_mono (goneRef) ?_; rintro rs rfl) | (with_reducible refine HCallF_mono (goneRef) (by first | rfl | simp [flatR, RV.flat, RV.isD, Ty.flat]) ?_) | (refine SCall.mono (goneRef) ?_; rintro rs rfl)
      simp -dsimp -implicitDefEqProofs (disch := omega) only [↓reduceIte, ↓gA, gB, refs, den, hasTy, Ty.cmp, Ty.depth, reduceCtorEq, Nat.reduceAdd, Nat.reduceSub, Nat.reduceMul, Nat.reduceEqDiff, Nat.reduceLT, Nat.reduceLeDiff, Nat.reduceMod, Nat.reduceDiv, Nat.reducePow, Nat.reduceBEq, Int.reduceToNat, Int.reduceLE, Int.reduceLT, Int.reduceEq, Int.reduceAdd, Int.reduceMul, Int.reduceSub, Int.reduceNeg, Int.reduceNe, Tryd.TS, Tryd.EV, u256_inj hlt (show 1 < 115792089237316195423570985008687907853269984665640564039457584007913129639936 by omega)]
      simp [h0, h2]
    · simp -dsimp -implicitDefEqProofs (disch := omega) only [↓reduceIte, ↓gA, gB, refs, den, hasTy, Ty.cmp, Ty.depth, reduceCtorEq, Nat.reduceAdd, Nat.reduceSub, Nat.reduceMul, Nat.reduceEqDiff, Nat.reduceLT, Nat.reduceLeDiff, Nat.reduceMod, Nat.reduceDiv, Nat.reducePow, Nat.reduceBEq, Int.reduceToNat, Int.reduceLE, Int.reduceLT, Int.reduceEq, Int.reduceAdd, Int.reduceMul, Int.reduceSub, Int.reduceNeg, Int.reduceNe, Tryd.TS, Tryd.EV]
      simp [h0, h2]
  · simp -dsimp -implicitDefEqProofs (disch := omega) only [↓reduceIte, ↓gA, gB, refs, den, hasTy, Ty.cmp, Ty.depth, reduceCtorEq, Nat.reduceAdd, Nat.reduceSub, Nat.reduceMul, Nat.reduceEqDiff, Nat.reduceLT, Nat.reduceLeDiff, Nat.reduceMod, Nat.reduceDiv, Nat.reducePow, Nat.reduceBEq, Int.reduceToNat, Int.reduceLE, Int.reduceLT, Int.reduceEq, Int.reduceAdd, Int.reduceMul, Int.reduceSub, Int.reduceNeg, Int.reduceNe, Tryd.TS, Tryd.EV]
    have h0 : a = 0 := by omega
    subst h0
    simp

set_option maxHeartbeats 1000000 in
theorem gpower (e : Nat) (he : e < 115792089237316195423570985008687907853269984665640564039457584007913129639936) : SCall Tryd.prog 40 [(.arr 4 (.int .u64), u256 e)] (fun rs => rs = [.d (.arr 4 (.int .u64)) (u256 (4 ^ e % 115792089237316195423570985008687907853269984665640564039457584007913129603823))]) := by
  have hf : SCall Tryd.prog 46 [(.int .u64, .n 4)] (fun rs => rs = [.d (.arr 4 (.int .u64)) (u256 4)]) := fromUint 4 (by omega)
  refine scall_intro (n := 6) (rl := [.cell 2 45]) (us := [45]) Tryd.hT Tryd.func40 rfl rfl rfl rfl rfl (Nat.le_of_ble_eq_true rfl) ?_
  intro w0 hL0
  simp -dsimp -implicitDefEqProofs (disch := omega) only [↓reduceIte, ↓gA, gB, refs, den, hasTy, Ty.cmp, Ty.depth, reduceCtorEq, Nat.reduceAdd, Nat.reduceSub, Nat.reduceMul, Nat.reduceEqDiff, Nat.reduceLT, Nat.reduceLeDiff, Nat.reduceMod, Nat.reduceDiv, Nat.reducePow, Nat.reduceBEq, Int.reduceToNat, Int.reduceLE, Int.reduceLT, Int.reduceEq, Int.reduceAdd, Int.reduceMul, Int.reduceSub, Int.reduceNeg, Int.reduceNe, Tryd.TS, Tryd.EV, rep4]
  refine sdraw (id := 1) Tryd.hT (by kernel_rfl) [3] [] [1, 0, 2, 3] (by kernel_rfl) (by kernel_rfl) (by kernel_rfl) ?_; simp only [gK, ↓reduceIte, Nat.reduceEqDiff]
  simp -dsimp -implicitDefEqProofs (disch := omega) only [↓reduceIte, ↓gA, gB, refs, den, hasTy, Ty.cmp, Ty.depth, reduceCtorEq, Nat.reduceAdd, Nat.reduceSub, Nat.reduceMul, Nat.reduceEqDiff, Nat.reduceLT, Nat.reduceLeDiff, Nat.reduceMod, Nat.reduceDiv, Nat.reducePow, Nat.reduceBEq, Int.reduceToNat, Int.reduceLE, Int.reduceLT, Int.reduceEq, Int.reduceAdd, Int.reduceMul, Int.reduceSub, Int.reduceNeg, Int.reduceNe, Tryd.TS, Tryd.EV]
  first | (with_reducible refine HCall_mono (hf) ?_; rintro rs rfl) | (with_reducible refine HCallF_mono (hf) (by first | rfl | simp [flatR, RV.flat, RV.isD, Ty.flat]) ?_) | (refine SCall.mono (hf) ?_; rintro rs rfl)
  simp -dsimp -implicitDefEqProofs (disch := omega) only [↓reduceIte, ↓gA, gB, refs, den, hasTy, Ty.cmp, Ty.depth, reduceCtorEq, Nat.reduceAdd, Nat.reduceSub, Nat.reduceMul, Nat.reduceEqDiff, Nat.reduceLT, Nat.reduceLeDiff, Nat.reduceMod, Nat.reduceDiv, Nat.reducePow, Nat.reduceBEq, Int.reduceToNat, Int.reduceLE, Int.reduceLT, Int.reduceEq, Int.reduceAdd, Int.reduceMul, Int.reduceSub, Int.reduceNeg, Int.reduceNe, Tryd.TS, Tryd.EV]
  first | (with_reducible refine HCall_mono (gexp 4 e (by omega) he) ?_; rintro rs rfl) | (with_reducible refine HCallF_mono (gexp 4 e (by omega) he) (by first | rfl | simp [flatR, RV.flat, RV.isD, Ty.flat]) ?_) | (refine SCall.mono (gexp 4 e (by omega) he) ?_; rintro rs rfl)
  simp -dsimp -implicitDefEqProofs (disch := omega) only [↓reduceIte, ↓gA, gB, refs, den, hasTy, Ty.cmp, Ty.depth, reduceCtorEq, Nat.reduceAdd, Nat.reduceSub, Nat.reduceMul, Nat.reduceEqDiff, Nat.reduceLT, Nat.reduceLeDiff, Nat.reduceMod, Nat.reduceDiv, Nat.reducePow, Nat.reduceBEq, Int.reduceToNat, Int.reduceLE, Int.reduceLT, Int.reduceEq, Int.reduceAdd, Int.reduceMul, Int.reduceSub, Int.reduceNeg, Int.reduceNe, Tryd.TS, Tryd.EV]

theorem four_q {q : Nat} (hq : q = 57896044618658097711785492504343953926634992332820282019728792003956564801911) : 4 ^ q % 115792089237316195423570985008687907853269984665640564039457584007913129603823 = 1 := by
  rw [← Nt.pm_ok 115792089237316195423570985008687907853269984665640564039457584007913129603823 256 4 q (by omega), hq]
  decide +kernel
theorem mem_four {q : Nat} (hq : q = 57896044618658097711785492504343953926634992332820282019728792003956564801911) : mem q 4 = true := by
  unfold mem
  rw [four_q hq]
  decide
theorem mem_zero (q : Nat) : mem q 0 = false := by simp [mem]

end Go.Proofs
/- Squares modulo the prime. Plain arithmetic. -/
namespace Go.Nt

theorem odd_pow {p c q : Nat} (hc : c < p) (h0 : 0 < c) (hq : q % 2 = 1) : ((p - c) ^ q + c ^ q) % p = 0 := by
  obtain ⟨k, rfl⟩ : ∃ k, q = 2 * k + 1 := ⟨q / 2, by omega⟩
  clear hq
  have hsq : (p - c) * (p - c) % p = c * c % p := by
    have e : (p - c) * (p - c) + p * (2 * c) = c * c + p * p := by
      obtain ⟨d, rfl⟩ : ∃ d, p = c + d := ⟨p - c, by omega⟩
      rw [Nat.add_sub_cancel_left]
      simp only [Nat.add_mul, Nat.mul_add, Nat.two_mul]
      have := Nat.mul_comm c d
      omega
    have h1 := congrArg (· % p) e
    simp only [Nat.add_mul_mod_self_left] at h1
    exact h1
  have hev : ((p - c) ^ (2 * k)) % p = c ^ (2 * k) % p := by
    rw [Nat.pow_mul, Nat.pow_mul, Nat.pow_mod, Nat.pow_mod (c ^ 2), Nat.pow_two, Nat.pow_two, hsq]
  rw [Nat.pow_succ, Nat.pow_succ, Nat.add_mod, Nat.mul_mod, hev, ← Nat.mul_mod, ← Nat.add_mod, ← Nat.mul_add, show p - c + c = p by omega, Nat.mul_mod_left]

/-- Of a number and its negative one alone has the power 1. -/
theorem one_of_two {p c q : Nat} (hp : Pr p) (h2 : p = 2 * q + 1) (hq : q % 2 = 1) (hc : c < p) (h0 : 0 < c) : decide ((p - c) ^ q % p = 1) = !decide (c ^ q % p = 1) := by
  have hp2 := hp.1
  have hnd : ¬ p ∣ c := fun h => by have := Nat.le_of_dvd h0 h; omega
  have hf := hp.fermat hnd
  rw [show p - 1 = q + q by omega, Nat.pow_add] at hf
  have ho := odd_pow hc h0 hq
  have hx : c ^ q % p < p := Nat.mod_lt _ (by omega)
  have hy : (p - c) ^ q % p < p := Nat.mod_lt _ (by omega)
  rw [Nat.add_mod] at ho
  rw [Nat.mul_mod] at hf
  generalize c ^ q % p = x at *
  generalize (p - c) ^ q % p = y at *
  have hxp : x = 1 ∨ x = p - 1 := by
    have h1 : p ∣ (x - 1) * (x + 1) := by
      have hx0 : 0 < x := by
        rcases Nat.eq_zero_or_pos x with e | e
        · subst e; simp at hf
        · exact e
      have e : (x - 1) * (x + 1) = x * x - 1 := by
        obtain ⟨z, rfl⟩ : ∃ z, x = z + 1 := ⟨x - 1, by omega⟩
        simp only [Nat.add_sub_cancel, Nat.mul_add, Nat.add_mul]
        omega
      rw [e]
      exact Nat.dvd_of_mod_eq_zero (Nat.sub_mod_eq_zero_of_mod_eq (by rw [hf, Nat.mod_eq_of_lt (by omega)]))
    rcases hp.dvd_mul h1 with h | h
    · left
      rcases Nat.eq_zero_or_pos (x - 1) with e | e
      · rcases Nat.eq_zero_or_pos x with e2 | e2
        · subst e2; simp at hf
        · omega
      · have := Nat.le_of_dvd e h; omega
    · right
      have := Nat.le_of_dvd (by omega) h
      omega
  have hsum : x + y = p ∨ x + y = 0 := by
    have h3 : (x + y) % p = 0 := by rw [Nat.add_comm]; exact ho
    rcases Nat.lt_or_ge (x + y) p with h | h
    · right; rw [Nat.mod_eq_of_lt h] at h3; exact h3
    · left; rw [Nat.mod_eq_sub_mod h, Nat.mod_eq_of_lt (by omega)] at h3; omega
  rw [← decide_not]
  refine decide_eq_decide.2 ?_
  rcases hxp with rfl | rfl <;> omega

/-- A square's power. -/
theorem square_pow {p a q : Nat} (hp : Pr p) (h2 : p = 2 * q + 1) (ha : ¬ p ∣ a) : (a * a % p) ^ q % p = 1 := by
  have hf := hp.fermat ha
  rw [← Nat.pow_mod, ← Nat.pow_two, ← Nat.pow_mul, ← show p - 1 = 2 * q by omega]
  exact hf
end Go.Nt
/- The group: a number and its negative. -/
namespace Go.Proofs
open Go.SE

theorem mem_eq {q a : Nat} (h0 : 0 < a) (ha : a < 115792089237316195423570985008687907853269984665640564039457584007913129603823) : mem q a = decide (a ^ q % 115792089237316195423570985008687907853269984665640564039457584007913129603823 = 1) := by
  unfold mem
  rw [decide_eq_true (show a ≠ 0 by omega), decide_eq_true ha, Bool.true_and, Bool.true_and]

theorem two_mem {c q : Nat} (hq : q = 57896044618658097711785492504343953926634992332820282019728792003956564801911) (hc : c < 115792089237316195423570985008687907853269984665640564039457584007913129603823) (h0 : 0 < c) : mem q (115792089237316195423570985008687907853269984665640564039457584007913129603823 - c) = !mem q c := by
  rw [mem_eq (by omega) (by omega), mem_eq h0 hc]
  exact Nt.one_of_two Nt.pr7 (by show 115792089237316195423570985008687907853269984665640564039457584007913129603823 = _; omega) (by omega) hc h0

theorem sq_mem {a q : Nat} (hq : q = 57896044618658097711785492504343953926634992332820282019728792003956564801911) (ha : ¬ a % 115792089237316195423570985008687907853269984665640564039457584007913129603823 = 0) : mem q (a * a % 115792089237316195423570985008687907853269984665640564039457584007913129603823) = true := by
  have hnd : ¬ Nt.thePrime ∣ a := fun h => ha (Nat.mod_eq_zero_of_dvd h)
  have h1 := Nt.square_pow (q := q) Nt.pr7 (by show 115792089237316195423570985008687907853269984665640564039457584007913129603823 = _; omega) hnd
  have hpos : 0 < a * a % 115792089237316195423570985008687907853269984665640564039457584007913129603823 := by
    rcases Nat.eq_zero_or_pos (a * a % 115792089237316195423570985008687907853269984665640564039457584007913129603823) with e | e
    · exact absurd (Nt.pr7.dvd_mul (Nat.dvd_of_mod_eq_zero e)) (by rintro (h | h) <;> exact hnd h)
    · exact e
  rw [mem_eq hpos (Nat.mod_lt _ (by omega))]
  exact decide_eq_true h1

theorem bneq_not (b : Bool) : (!((!b) == b)) = true := by cases b <;> rfl

end Go.Proofs
/- Bytes. -/
namespace Go.Proofs
open Go.SE

/-- Bytes. -/
def BY (b : List D) : Prop := ∀ x ∈ b, ∃ n : Nat, x = .n n ∧ n < 256
def byt (b : List D) (i : Nat) : Nat := (b.getD i default).int.toNat
theorem BY.get {b : List D} (h : BY b) (i : Nat) : ∃ n : Nat, b.getD i default = .n n ∧ n < 256 := by
  rw [List.getD_eq_getElem?_getD]
  cases hx : b[i]? with
  | none => exact ⟨0, rfl, by omega⟩
  | some x => exact h x (List.mem_of_getElem? hx)
theorem BY.int {b : List D} (h : BY b) (i : Nat) : (D.at (.l b) i).int = byt b i := by
  obtain ⟨n, e, _⟩ := h.get i
  unfold D.at byt
  simp only [D.list]
  rw [e]
  rfl
theorem BY.lt {b : List D} (h : BY b) (i : Nat) : byt b i < 256 := by
  obtain ⟨n, e, hn⟩ := h.get i
  unfold byt
  rw [e]
  exact hn
theorem BY.u64 {b : List D} (h : BY b) (i : Nat) : IntKind.u64.wrap (D.at (.l b) i).int = byt b i := by
  have := h.lt i
  rw [h.int, IntWalk.u64_in _ (by omega)]

theorem BY.nil : BY [] := fun x hx => by simp at hx
theorem BY.cons {n : Nat} {l : List D} (hn : n < 256) (h : BY l) : BY (.n n :: l) := fun x hx => by
  rcases List.mem_cons.1 hx with rfl | hx
  · exact ⟨n, rfl, hn⟩
  · exact h x hx
theorem BY.append {a b : List D} (ha : BY a) (hb : BY b) : BY (a ++ b) := by
  intro x hx
  rcases List.mem_append.mp hx with h | h
  · exact ha x h
  · exact hb x h
theorem BY.of_fit {x : D} (h : Fit (.sl (.int .u8)) x) : ∃ b, x = .l b ∧ BY b ∧ b.length ≤ 9223372036854775807 := by
  obtain ⟨l, rfl, hl, hb⟩ := h
  exact ⟨l, rfl, fun y hy => (hb y hy).u8, hl⟩
theorem BY.of_arr {x : D} {n : Nat} (h : Fit (.arr n (.int .u8)) x) : ∃ b, x = .l b ∧ BY b ∧ b.length = n := by
  obtain ⟨l, rfl, hl, hb⟩ := h
  exact ⟨l, rfl, fun y hy => (hb y hy).u8, hl⟩
end Go.Proofs
/- Numbers of 32 bytes. -/
namespace Go.Proofs
open Go.SE

/-- The number that m bytes from s are, the first one highest. -/
def bev (d : List D) (s : Nat) : Nat → Nat
  | 0 => 0
  | m + 1 => bev d s m * 256 + byt d (s + m)
theorem bev_lt {d : List D} (h : BY d) (s : Nat) : ∀ m, bev d s m < 256 ^ m
  | 0 => by simp [bev]
  | m + 1 => by
    have h1 := h.lt (s + m)
    have h2 := bev_lt h s m
    rw [bev, Nat.pow_succ]
    omega
theorem bev8 {d : List D} (h : BY d) (s : Nat) {m : Nat} (hm : m ≤ 8) : bev d s m < 18446744073709551616 :=
  Nat.lt_of_lt_of_le (bev_lt h s m) (Nat.le_trans (Nat.pow_le_pow_right (by omega) hm) (by decide))
/-- The words after i bytes. -/
def wrd (d : List D) (i k : Nat) : Nat := bev d (8 * (3 - k)) (min 8 (i - 8 * (3 - k)))
theorem wrd_step {d : List D} {i : Nat} (hi : i < 32) : wrd d (i + 1) (3 - i / 8) = wrd d i (3 - i / 8) * 256 + byt d i := by
  unfold wrd
  have e1 : 3 - (3 - i / 8) = i / 8 := by omega
  have e2 : min 8 (i + 1 - 8 * (i / 8)) = i - 8 * (i / 8) + 1 := by omega
  have e3 : min 8 (i - 8 * (i / 8)) = i - 8 * (i / 8) := by omega
  rw [e1, e2, e3, bev, show 8 * (i / 8) + (i - 8 * (i / 8)) = i by omega]
theorem wrd_other {d : List D} {i k : Nat} (hk : k < 4) (h : k ≠ 3 - i / 8) : wrd d (i + 1) k = wrd d i k := by
  unfold wrd
  congr 1
  omega
def fb (d : List D) : Nat := wrd d 32 0 + 18446744073709551616 * wrd d 32 1 + 340282366920938463463374607431768211456 * wrd d 32 2 + 6277101735386680763835789423207666416102355444464034512896 * wrd d 32 3

def wl (d : List D) (i : Nat) : D := nl [wrd d i 0, wrd d i 1, wrd d i 2, wrd d i 3]
theorem wl_len (d : List D) (i : Nat) : (wl d i).list.length = 4 := rfl
theorem wl_at (d : List D) (i : Nat) {k : Nat} (hk : k < 4) : D.at (wl d i) k = .n (wrd d i k) := by
  rw [wl, nl_at]
  rcases (show k = 0 ∨ k = 1 ∨ k = 2 ∨ k = 3 by omega) with rfl | rfl | rfl | rfl <;> rfl
theorem wl_set {d : List D} {i : Nat} (hi : i < 32) : D.l ((wl d i).list.set (3 - i / 8) (.n ((wrd d i (3 - i / 8) * 256 + byt d i : Nat) : Int))) = wl d (i + 1) := by
  rw [← wrd_step hi, wl, nl_set, wl]
  congr 1
  have ho := @wrd_other d i
  rcases (show i / 8 = 3 ∨ i / 8 = 2 ∨ i / 8 = 1 ∨ i / 8 = 0 by omega) with h | h | h | h <;> rw [h] at ho ⊢ <;> simp only [Nat.sub_self, List.set_cons_zero, List.set_cons_succ, show 3 - 2 = 1 from rfl, show 3 - 1 = 2 from rfl, show 3 - 0 = 3 from rfl]
  · rw [ho (k := 1) (by omega) (by omega), ho (k := 2) (by omega) (by omega), ho (k := 3) (by omega) (by omega)]
  · rw [ho (k := 0) (by omega) (by omega), ho (k := 2) (by omega) (by omega), ho (k := 3) (by omega) (by omega)]
  · rw [ho (k := 0) (by omega) (by omega), ho (k := 1) (by omega) (by omega), ho (k := 3) (by omega) (by omega)]
  · rw [ho (k := 0) (by omega) (by omega), ho (k := 1) (by omega) (by omega), ho (k := 2) (by omega) (by omega)]
theorem wl_done {d : List D} (h : BY d) : wl d 32 = u256 (fb d) :=
  u256_mk (bev8 h _ (by omega)) (bev8 h _ (by omega)) (bev8 h _ (by omega)) (bev8 h _ (by omega)) rfl
theorem fb_lt {d : List D} (h : BY d) : fb d < 115792089237316195423570985008687907853269984665640564039457584007913129639936 := by
  have h0 := bev8 h (8 * (3 - 0)) (m := min 8 (32 - 8 * (3 - 0))) (by omega)
  have h1 := bev8 h (8 * (3 - 1)) (m := min 8 (32 - 8 * (3 - 1))) (by omega)
  have h2 := bev8 h (8 * (3 - 2)) (m := min 8 (32 - 8 * (3 - 2))) (by omega)
  have h3 := bev8 h (8 * (3 - 3)) (m := min 8 (32 - 8 * (3 - 3))) (by omega)
  unfold fb wrd
  omega

theorem wl_zero (d : List D) : wl d 0 = .l [.n 0, .n 0, .n 0, .n 0] := rfl
theorem td8 {a : Nat} : (a : Int).tdiv 8 = ((a / 8 : Nat) : Int) := rfl
theorem sub3 {i : Nat} (h : i < 32) : (3 : Int) - ((i / 8 : Nat) : Int) = ((3 - i / 8 : Nat) : Int) := by omega
theorem sl8 {a : Nat} : IntKind.u64.wrap ((a : Int) * 2 ^ min 8 IntKind.u64.bits) = ((a * 256 % 18446744073709551616 : Nat) : Int) := by
  rw [show ((2 : Int) ^ min 8 IntKind.u64.bits) = ((256 : Nat) : Int) from rfl, mulN, wrapM]
theorem or8 {a b : Nat} (ha : a * 256 < 18446744073709551616) (hb : b < 256) : bits .or .u64 ((a * 256 % 18446744073709551616 : Nat) : Int) (b : Int) = ((a * 256 + b : Nat) : Int) := by
  rw [Nat.mod_eq_of_lt ha, u64_or_nat _ _ ha (by omega)]
  congr 1
  have := Nat.two_pow_add_eq_or_of_lt (i := 8) (b := b) hb a
  rw [show (2 : Nat) ^ 8 = 256 from rfl, Nat.mul_comm] at this
  exact this.symm

set_option maxHeartbeats 2000000 in
theorem wfromBytes (d : List D) (hB : BY d) (hd : d.length = 32) : SCall Tryd.prog 59 [(.arr 32 (.int .u8), .l d)] (fun rs => rs = [.d (.arr 4 (.int .u64)) (u256 (fb d))]) := by
  refine scall_intro (n := 26) (rl := [.cell 2 45]) (us := [45]) Tryd.hT Tryd.func59 rfl rfl rfl rfl rfl (Nat.le_of_ble_eq_true rfl) ?_
  intro w0 hL0
  simp -dsimp -implicitDefEqProofs (disch := omega) only [↓reduceIte, ↓gA, gB, refs, den, hasTy, Ty.cmp, Ty.depth, reduceCtorEq, Nat.reduceAdd, Nat.reduceSub, Nat.reduceMul, Nat.reduceEqDiff, Nat.reduceLT, Nat.reduceLeDiff, Nat.reduceMod, Nat.reduceDiv, Nat.reducePow, Nat.reduceBEq, Int.reduceToNat, Int.reduceLE, Int.reduceLT, Int.reduceEq, Int.reduceAdd, Int.reduceMul, Int.reduceSub, Int.reduceNeg, Int.reduceNe, Tryd.TS, Tryd.EV, rep4]
  refine sloop Tryd.hT (α := Nat) (fun i => ⟨26, [(7, .v (.d (.int .i64) (.n i))), (6, .v (.d (.arr 32 (.int .u8)) (.l d))), (3, .v (.ptr 2 [])), (2, .v (.ptr 1 []))], [(1, ⟨.arr 4 (.int .u64), .d (.arr 4 (.int .u64)) (.l [.n 0, .n 0, .n 0, .n 0])⟩), (2, ⟨.arr 4 (.int .u64), .d (.arr 4 (.int .u64)) (wl d i)⟩)], 3⟩) (fun i => i ≤ 32) (fun i => 32 - i) 0 ?_ (Nat.zero_le _) ?_
  · refine sub_ren w0 hL0 [(1, 1), (2, 2)] rfl rfl (by simp [keysLt]) rfl ?_ ?_
    · simp [renTm, Go.SE.look, renTV, renSV]
    · simp [renOb, Go.SE.look, renSV, wl_zero]
  · intro i hi
    simp -dsimp -implicitDefEqProofs (disch := omega) only [↓reduceIte, ↓gA, gB, refs, den, hasTy, Ty.cmp, Ty.depth, reduceCtorEq, Nat.reduceAdd, Nat.reduceSub, Nat.reduceMul, Nat.reduceEqDiff, Nat.reduceLT, Nat.reduceLeDiff, Nat.reduceMod, Nat.reduceDiv, Nat.reducePow, Nat.reduceBEq, Int.reduceToNat, Int.reduceLE, Int.reduceLT, Int.reduceEq, Int.reduceAdd, Int.reduceMul, Int.reduceSub, Int.reduceNeg, Int.reduceNe, Tryd.TS, Tryd.EV, rep4]
    refine HIf_dec (a := ()) (b := ()) (fun h => ?_) (fun h => ?_)
    · have hlt := hB.lt i
      have hw : wrd d i (3 - i / 8) * 256 < 18446744073709551616 := by
        have := bev_lt hB (8 * (3 - (3 - i / 8))) (min 8 (i - 8 * (3 - (3 - i / 8))))
        have h2 : (256 : Nat) ^ min 8 (i - 8 * (3 - (3 - i / 8))) ≤ 256 ^ 7 := Nat.pow_le_pow_right (by omega) (by omega)
        have h3 : (256 : Nat) ^ 7 = 72057594037927936 := by decide
        unfold wrd
        omega
      simp -dsimp -implicitDefEqProofs (disch := omega) only [↓reduceIte, ↓gA, gB, refs, den, hasTy, Ty.cmp, Ty.depth, reduceCtorEq, Nat.reduceAdd, Nat.reduceSub, Nat.reduceMul, Nat.reduceEqDiff, Nat.reduceLT, Nat.reduceLeDiff, Nat.reduceMod, Nat.reduceDiv, Nat.reducePow, Nat.reduceBEq, Int.reduceToNat, Int.reduceLE, Int.reduceLT, Int.reduceEq, Int.reduceAdd, Int.reduceMul, Int.reduceSub, Int.reduceNeg, Int.reduceNe, Tryd.TS, Tryd.EV, td8, sub3 (show i < 32 by omega), hB.int]
      repeat (refine And.intro (by omega) ?_)
      simp -dsimp -implicitDefEqProofs (disch := omega) only [↓reduceIte, ↓gA, gB, refs, den, hasTy, Ty.cmp, Ty.depth, reduceCtorEq, Nat.reduceAdd, Nat.reduceSub, Nat.reduceMul, Nat.reduceEqDiff, Nat.reduceLT, Nat.reduceLeDiff, Nat.reduceMod, Nat.reduceDiv, Nat.reducePow, Nat.reduceBEq, Int.reduceToNat, Int.reduceLE, Int.reduceLT, Int.reduceEq, Int.reduceAdd, Int.reduceMul, Int.reduceSub, Int.reduceNeg, Int.reduceNe, Tryd.TS, Tryd.EV, td8, sub3 (show i < 32 by omega), hB.int, hB.u64, wl_at d i (show 3 - i / 8 < 4 by omega), sl8, or8 hw hlt, wl_set (d := d) (show i < 32 by omega)]
      refine ⟨i + 1, by omega, by omega, ?_⟩
      refine sub_ren w0 hL0 [(1, 1), (2, 2)] rfl rfl (by simp [keysLt]) rfl ?_ ?_
      · simp [renTm, Go.SE.look, renTV, renSV]
      · simp [renOb, Go.SE.look, renSV]
    · simp -dsimp -implicitDefEqProofs (disch := omega) only [↓reduceIte, ↓gA, gB, refs, den, hasTy, Ty.cmp, Ty.depth, reduceCtorEq, Nat.reduceAdd, Nat.reduceSub, Nat.reduceMul, Nat.reduceEqDiff, Nat.reduceLT, Nat.reduceLeDiff, Nat.reduceMod, Nat.reduceDiv, Nat.reducePow, Nat.reduceBEq, Int.reduceToNat, Int.reduceLE, Int.reduceLT, Int.reduceEq, Int.reduceAdd, Int.reduceMul, Int.reduceSub, Int.reduceNeg, Int.reduceNe, Tryd.TS, Tryd.EV]
      have e : i = 32 := by omega
      subst e
      rw [wl_done hB]
end Go.Proofs
/- Numbers of 32 bytes: the reference; scalars. -/
namespace Go.Proofs
open Go.SE

theorem shl_byte' (v i : Nat) (hv : v < 256) (hi : i < 8) : IntKind.u64.wrap ((v : Int) * 2 ^ min (8 * (i : Int)).toNat IntKind.u64.bits) = ((v * 256 ^ i : Nat) : Int) := by
  have h1 : min (8 * (i : Int)).toNat IntKind.u64.bits = 8 * i := by
    show min (8 * (i : Int)).toNat 64 = 8 * i
    omega
  rw [h1, show ((2 : Int) ^ (8 * i)) = ((256 ^ i : Nat) : Int) by rw [Int.pow_mul]; exact (Int.natCast_pow 256 i).symm]
  rw [mulN]
  refine wrapN _ ?_
  have h2 : (256 : Nat) ^ i ≤ 256 ^ 7 := Nat.pow_le_pow_right (by omega) (by omega)
  have h3 : (256 : Nat) ^ 7 = 72057594037927936 := by decide
  have h4 : v * 256 ^ i ≤ 255 * 256 ^ 7 := Nat.mul_le_mul (by omega) h2
  omega

def wrf (d : List D) (i k : Nat) : Nat := wrd d i k * 256 ^ (8 - min 8 (i - 8 * (3 - k)))
theorem wrf_other {d : List D} {i k : Nat} (hk : k < 4) (h : k ≠ 3 - i / 8) : wrf d (i + 1) k = wrf d i k := by
  unfold wrf
  rw [wrd_other hk h]
  congr 2
  omega
theorem or_high {a b m : Nat} (hb : b < 256) (hm : m < 8) : (a * 256 ^ (8 - m)) ||| (b * 256 ^ (7 - m)) = (a * 256 + b) * 256 ^ (8 - (m + 1)) := by
  have e : (256 : Nat) ^ (8 - m) = 2 ^ (8 * (8 - m)) := by rw [Nat.pow_mul]
  have e2 : (256 : Nat) ^ (8 - m) = 256 * 256 ^ (7 - m) := by rw [show 8 - m = 7 - m + 1 by omega, Nat.pow_succ, Nat.mul_comm]
  have hlt : b * 256 ^ (7 - m) < 2 ^ (8 * (8 - m)) := by
    rw [← e, e2]
    exact Nat.mul_lt_mul_of_pos_right hb (Nat.pow_pos (by omega))
  have := Nat.two_pow_add_eq_or_of_lt hlt a
  rw [← e, Nat.mul_comm] at this
  rw [← this, e2, show 8 - (m + 1) = 7 - m by omega, Nat.add_mul, Nat.mul_assoc]
theorem wrf_step {d : List D} (h : BY d) {i : Nat} (hi : i < 32) : wrf d i (3 - i / 8) ||| (byt d i * 256 ^ (7 - i % 8)) = wrf d (i + 1) (3 - i / 8) := by
  have hb := h.lt i
  unfold wrf
  rw [wrd_step hi, show min 8 (i - 8 * (3 - (3 - i / 8))) = i % 8 by omega, show min 8 (i + 1 - 8 * (3 - (3 - i / 8))) = i % 8 + 1 by omega, or_high hb (by omega)]
theorem wrf_lt {d : List D} (h : BY d) (i k : Nat) : wrf d i k < 18446744073709551616 := by
  unfold wrf wrd
  generalize hm : min 8 (i - 8 * (3 - k)) = m
  have h1 := bev_lt h (8 * (3 - k)) m
  have e : (256 : Nat) ^ m * 256 ^ (8 - m) = 18446744073709551616 := by rw [← Nat.pow_add, show m + (8 - m) = 8 by omega]
  rw [← e]
  exact Nat.mul_lt_mul_of_pos_right h1 (Nat.pow_pos (by omega))
def wf (d : List D) (i : Nat) : D := nl [wrf d i 0, wrf d i 1, wrf d i 2, wrf d i 3]
theorem wf_len (d : List D) (i : Nat) : (wf d i).list.length = 4 := rfl
theorem wf_at (d : List D) (i : Nat) {k : Nat} (hk : k < 4) : D.at (wf d i) k = .n (wrf d i k) := by
  rw [wf, nl_at]
  rcases (show k = 0 ∨ k = 1 ∨ k = 2 ∨ k = 3 by omega) with rfl | rfl | rfl | rfl <;> rfl
theorem wf_set {d : List D} {i : Nat} (hi : i < 32) : D.l ((wf d i).list.set (3 - i / 8) (.n ((wrf d (i + 1) (3 - i / 8) : Nat) : Int))) = wf d (i + 1) := by
  rw [wf, nl_set, wf]
  congr 1
  have ho := @wrf_other d i
  rcases (show i / 8 = 3 ∨ i / 8 = 2 ∨ i / 8 = 1 ∨ i / 8 = 0 by omega) with h | h | h | h <;> rw [h] at ho ⊢ <;> simp only [Nat.sub_self, List.set_cons_zero, List.set_cons_succ, show 3 - 2 = 1 from rfl, show 3 - 1 = 2 from rfl, show 3 - 0 = 3 from rfl]
  · rw [ho (k := 1) (by omega) (by omega), ho (k := 2) (by omega) (by omega), ho (k := 3) (by omega) (by omega)]
  · rw [ho (k := 0) (by omega) (by omega), ho (k := 2) (by omega) (by omega), ho (k := 3) (by omega) (by omega)]
  · rw [ho (k := 0) (by omega) (by omega), ho (k := 1) (by omega) (by omega), ho (k := 3) (by omega) (by omega)]
  · rw [ho (k := 0) (by omega) (by omega), ho (k := 1) (by omega) (by omega), ho (k := 2) (by omega) (by omega)]
theorem wf_done {d : List D} (h : BY d) : wf d 32 = u256 (fb d) := by
  rw [← wl_done h, wf, wl]
  simp [wrf]
theorem wf_zero (d : List D) : wf d 0 = .l [.n 0, .n 0, .n 0, .n 0] := by
  simp [wf, wrf, wrd, bev, nl]
theorem sub31 {i : Nat} (h : i < 32) : (31 : Int) - (i : Int) = ((31 - i : Nat) : Int) := by omega
theorem tm8 {a : Nat} : (a : Int).tmod 8 = ((a % 8 : Nat) : Int) := rfl
theorem d31 {i : Nat} (h : i < 32) : (31 - i) / 8 = 3 - i / 8 := by omega
theorem m31 {i : Nat} (h : i < 32) : (31 - i) % 8 = 7 - i % 8 := by omega

set_option maxHeartbeats 2000000 in
theorem wfromBytesRef (d : List D) (hB : BY d) (hd : d.length = 32) : SCall Tryd.prog 38 [(.arr 32 (.int .u8), .l d)] (fun rs => rs = [.d (.arr 4 (.int .u64)) (u256 (fb d))]) := by
  refine scall_intro (n := 27) (rl := [.cell 2 45]) (us := [45]) Tryd.hT Tryd.func38 rfl rfl rfl rfl rfl (Nat.le_of_ble_eq_true rfl) ?_
  intro w0 hL0
  simp -dsimp -implicitDefEqProofs (disch := omega) only [↓reduceIte, ↓gA, gB, refs, den, hasTy, Ty.cmp, Ty.depth, reduceCtorEq, Nat.reduceAdd, Nat.reduceSub, Nat.reduceMul, Nat.reduceEqDiff, Nat.reduceLT, Nat.reduceLeDiff, Nat.reduceMod, Nat.reduceDiv, Nat.reducePow, Nat.reduceBEq, Int.reduceToNat, Int.reduceLE, Int.reduceLT, Int.reduceEq, Int.reduceAdd, Int.reduceMul, Int.reduceSub, Int.reduceNeg, Int.reduceNe, Tryd.TS, Tryd.EV, rep4]
  refine sloop Tryd.hT (α := Nat) (fun i => ⟨27, [(6, .v (.d (.int .i64) (.n i))), (3, .v (.ptr 2 [])), (2, .v (.ptr 1 [])), (1, .v (.ptr 0 []))], [(0, ⟨.arr 32 (.int .u8), .d (.arr 32 (.int .u8)) (.l d)⟩), (1, ⟨.arr 4 (.int .u64), .d (.arr 4 (.int .u64)) (.l [.n 0, .n 0, .n 0, .n 0])⟩), (2, ⟨.arr 4 (.int .u64), .d (.arr 4 (.int .u64)) (wf d i)⟩)], 3⟩) (fun i => i ≤ 32) (fun i => 32 - i) 0 ?_ (Nat.zero_le _) ?_
  · refine sub_ren w0 hL0 [(0, 0), (1, 1), (2, 2)] rfl rfl (by simp [keysLt]) rfl ?_ ?_
    · simp [renTm, Go.SE.look, renTV, renSV]
    · simp [renOb, Go.SE.look, renSV, wf_zero]
  · intro i hi
    simp -dsimp -implicitDefEqProofs (disch := omega) only [↓reduceIte, ↓gA, gB, refs, den, hasTy, Ty.cmp, Ty.depth, reduceCtorEq, Nat.reduceAdd, Nat.reduceSub, Nat.reduceMul, Nat.reduceEqDiff, Nat.reduceLT, Nat.reduceLeDiff, Nat.reduceMod, Nat.reduceDiv, Nat.reducePow, Nat.reduceBEq, Int.reduceToNat, Int.reduceLE, Int.reduceLT, Int.reduceEq, Int.reduceAdd, Int.reduceMul, Int.reduceSub, Int.reduceNeg, Int.reduceNe, Tryd.TS, Tryd.EV, rep4]
    refine HIf_dec (a := ()) (b := ()) (fun h => ?_) (fun h => ?_)
    · have hlt := hB.lt i
      have h32 : i < 32 := by omega
      have hwl := wrf_lt hB i (3 - i / 8)
      have hs := shl_byte' (byt d i) (7 - i % 8) hlt (by omega)
      have hor : bits .or .u64 ((wrf d i (3 - i / 8) : Nat) : Int) ((byt d i * 256 ^ (7 - i % 8) : Nat) : Int) = ((wrf d (i + 1) (3 - i / 8) : Nat) : Int) := by
        rw [u64_or_nat _ _ hwl ?_, wrf_step hB h32]
        have h2 : (256 : Nat) ^ (7 - i % 8) ≤ 256 ^ 7 := Nat.pow_le_pow_right (by omega) (by omega)
        have h3 : (256 : Nat) ^ 7 = 72057594037927936 := by decide
        have h4 : byt d i * 256 ^ (7 - i % 8) ≤ 255 * 256 ^ 7 := Nat.mul_le_mul (by omega) h2
        omega
      simp -dsimp -implicitDefEqProofs (disch := omega) only [↓reduceIte, ↓gA, gB, refs, den, hasTy, Ty.cmp, Ty.depth, reduceCtorEq, Nat.reduceAdd, Nat.reduceSub, Nat.reduceMul, Nat.reduceEqDiff, Nat.reduceLT, Nat.reduceLeDiff, Nat.reduceMod, Nat.reduceDiv, Nat.reducePow, Nat.reduceBEq, Int.reduceToNat, Int.reduceLE, Int.reduceLT, Int.reduceEq, Int.reduceAdd, Int.reduceMul, Int.reduceSub, Int.reduceNeg, Int.reduceNe, Tryd.TS, Tryd.EV, sub31 h32]
      refine sdraw (id := 6) Tryd.hT (by kernel_rfl) [14] [] [0, 1, 2, 3, 4, 5, 6, 7, 8, 9, 10, 11, 12, 13, 14] (by kernel_rfl) (by kernel_rfl) (by kernel_rfl) ?_; simp only [gK, ↓reduceIte, Nat.reduceEqDiff]
      simp -dsimp -implicitDefEqProofs (disch := omega) only [↓reduceIte, ↓gA, gB, refs, den, hasTy, Ty.cmp, Ty.depth, reduceCtorEq, Nat.reduceAdd, Nat.reduceSub, Nat.reduceMul, Nat.reduceEqDiff, Nat.reduceLT, Nat.reduceLeDiff, Nat.reduceMod, Nat.reduceDiv, Nat.reducePow, Nat.reduceBEq, Int.reduceToNat, Int.reduceLE, Int.reduceLT, Int.reduceEq, Int.reduceAdd, Int.reduceMul, Int.reduceSub, Int.reduceNeg, Int.reduceNe, Tryd.TS, Tryd.EV, sub31 h32, td8, tm8, d31 h32, m31 h32, hB.int, hB.u64, wf_at d i (show 3 - i / 8 < 4 by omega), hs, hor, wf_set (d := d) h32]
      repeat (refine And.intro (by omega) ?_)
      refine ⟨i + 1, by omega, by omega, ?_⟩
      refine sub_ren w0 hL0 [(0, 0), (1, 1), (2, 2)] rfl rfl (by simp [keysLt]) rfl ?_ ?_
      · simp [renTm, Go.SE.look, renTV, renSV]
      · simp [renOb, Go.SE.look, renSV]
    · simp -dsimp -implicitDefEqProofs (disch := omega) only [↓reduceIte, ↓gA, gB, refs, den, hasTy, Ty.cmp, Ty.depth, reduceCtorEq, Nat.reduceAdd, Nat.reduceSub, Nat.reduceMul, Nat.reduceEqDiff, Nat.reduceLT, Nat.reduceLeDiff, Nat.reduceMod, Nat.reduceDiv, Nat.reducePow, Nat.reduceBEq, Int.reduceToNat, Int.reduceLE, Int.reduceLT, Int.reduceEq, Int.reduceAdd, Int.reduceMul, Int.reduceSub, Int.reduceNeg, Int.reduceNe, Tryd.TS, Tryd.EV]
      have e : i = 32 := by omega
      subst e
      rw [wf_done hB]
end Go.Proofs
