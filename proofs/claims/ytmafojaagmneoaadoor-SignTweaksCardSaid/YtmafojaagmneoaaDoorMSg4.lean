/- Merged: GrH GrI ShA ShB ShC ShD ShE SgA SgB SgC SgD SgE SgF SgG SgH CoB CoC CoD CoE CoF CoG SgI SgJ. -/
import Derived.Laws.BitsAllLaws
import Derived.Test.YtmafojaagmneoaaDoorMSg3
set_option linter.unusedVariables false
set_option linter.unusedSimpArgs false
set_option linter.constructorNameAsVariable false
/- Scalars and inverses. -/
namespace Go.Proofs
open Go.SE

set_option maxHeartbeats 2000000 in
theorem gscalar (d : List D) (hB : BY d) (hd : d.length = 32) : SCall Tryd.prog 56 [(.arr 32 (.int .u8), .l d)] (fun rs => rs = [.d (.arr 4 (.int .u64)) (u256 (fb d % 57896044618658097711785492504343953926634992332820282019728792003956564801911))]) := by
  have h1 := waddmod (fb d) 0 57896044618658097711785492504343953926634992332820282019728792003956564801911 (fb_lt hB) (by omega) (by omega) (by omega)
  rw [Nat.add_zero, ← u256_zero] at h1
  refine scall_intro (n := 8) (rl := [.cell 2 45]) (us := [45]) Tryd.hT Tryd.func56 rfl rfl rfl rfl rfl (Nat.le_of_ble_eq_true rfl) ?_
  intro w0 hL0
  simp -dsimp -implicitDefEqProofs (disch := omega) only [↓reduceIte, ↓gA, gB, refs, den, hasTy, Ty.cmp, Ty.depth, reduceCtorEq, Nat.reduceAdd, Nat.reduceSub, Nat.reduceMul, Nat.reduceEqDiff, Nat.reduceLT, Nat.reduceLeDiff, Nat.reduceMod, Nat.reduceDiv, Nat.reducePow, Nat.reduceBEq, Int.reduceToNat, Int.reduceLE, Int.reduceLT, Int.reduceEq, Int.reduceAdd, Int.reduceMul, Int.reduceSub, Int.reduceNeg, Int.reduceNe, Tryd.TS, Tryd.EV, rep4]
  first | (with_reducible refine HCall_mono (wfromBytes d hB hd) ?_; rintro rs rfl) | (with_reducible refine HCallF_mono (wfromBytes d hB hd) (by first | rfl | simp [flatR, RV.flat, RV.isD, Ty.flat]) ?_) | (refine SCall.mono (wfromBytes d hB hd) ?_; rintro rs rfl)
  simp -dsimp -implicitDefEqProofs (disch := omega) only [↓reduceIte, ↓gA, gB, refs, den, hasTy, Ty.cmp, Ty.depth, reduceCtorEq, Nat.reduceAdd, Nat.reduceSub, Nat.reduceMul, Nat.reduceEqDiff, Nat.reduceLT, Nat.reduceLeDiff, Nat.reduceMod, Nat.reduceDiv, Nat.reducePow, Nat.reduceBEq, Int.reduceToNat, Int.reduceLE, Int.reduceLT, Int.reduceEq, Int.reduceAdd, Int.reduceMul, Int.reduceSub, Int.reduceNeg, Int.reduceNe, Tryd.TS, Tryd.EV, rep4]
  first | (with_reducible refine HCall_mono (gorder) ?_; rintro rs rfl) | (with_reducible refine HCallF_mono (gorder) (by first | rfl | simp [flatR, RV.flat, RV.isD, Ty.flat]) ?_) | (refine SCall.mono (gorder) ?_; rintro rs rfl)
  simp -dsimp -implicitDefEqProofs (disch := omega) only [↓reduceIte, ↓gA, gB, refs, den, hasTy, Ty.cmp, Ty.depth, reduceCtorEq, Nat.reduceAdd, Nat.reduceSub, Nat.reduceMul, Nat.reduceEqDiff, Nat.reduceLT, Nat.reduceLeDiff, Nat.reduceMod, Nat.reduceDiv, Nat.reducePow, Nat.reduceBEq, Int.reduceToNat, Int.reduceLE, Int.reduceLT, Int.reduceEq, Int.reduceAdd, Int.reduceMul, Int.reduceSub, Int.reduceNeg, Int.reduceNe, Tryd.TS, Tryd.EV, rep4]
  first | (with_reducible refine HCall_mono (h1) ?_; rintro rs rfl) | (with_reducible refine HCallF_mono (h1) (by first | rfl | simp [flatR, RV.flat, RV.isD, Ty.flat]) ?_) | (refine SCall.mono (h1) ?_; rintro rs rfl)
  simp -dsimp -implicitDefEqProofs (disch := omega) only [↓reduceIte, ↓gA, gB, refs, den, hasTy, Ty.cmp, Ty.depth, reduceCtorEq, Nat.reduceAdd, Nat.reduceSub, Nat.reduceMul, Nat.reduceEqDiff, Nat.reduceLT, Nat.reduceLeDiff, Nat.reduceMod, Nat.reduceDiv, Nat.reducePow, Nat.reduceBEq, Int.reduceToNat, Int.reduceLE, Int.reduceLT, Int.reduceEq, Int.reduceAdd, Int.reduceMul, Int.reduceSub, Int.reduceNeg, Int.reduceNe, Tryd.TS, Tryd.EV, rep4]

set_option maxHeartbeats 2000000 in
theorem gaddScalar (a b : Nat) (ha : a < 115792089237316195423570985008687907853269984665640564039457584007913129639936) (hb : b < 115792089237316195423570985008687907853269984665640564039457584007913129639936) : SCall Tryd.prog 42 [(.arr 4 (.int .u64), u256 a), (.arr 4 (.int .u64), u256 b)] (fun rs => rs = [.d (.arr 4 (.int .u64)) (u256 ((a + b) % 57896044618658097711785492504343953926634992332820282019728792003956564801911))]) := by
  refine scall_intro (n := 9) (rl := [.cell 4 45]) (us := [45]) Tryd.hT Tryd.func42 rfl rfl rfl rfl rfl (Nat.le_of_ble_eq_true rfl) ?_
  intro w0 hL0
  simp -dsimp -implicitDefEqProofs (disch := omega) only [↓reduceIte, ↓gA, gB, refs, den, hasTy, Ty.cmp, Ty.depth, reduceCtorEq, Nat.reduceAdd, Nat.reduceSub, Nat.reduceMul, Nat.reduceEqDiff, Nat.reduceLT, Nat.reduceLeDiff, Nat.reduceMod, Nat.reduceDiv, Nat.reducePow, Nat.reduceBEq, Int.reduceToNat, Int.reduceLE, Int.reduceLT, Int.reduceEq, Int.reduceAdd, Int.reduceMul, Int.reduceSub, Int.reduceNeg, Int.reduceNe, Tryd.TS, Tryd.EV, rep4]
  refine sdraw (id := 1) Tryd.hT (by kernel_rfl) [4] [] [0, 1, 2, 3, 4] (by kernel_rfl) (by kernel_rfl) (by kernel_rfl) ?_; simp only [gK, ↓reduceIte, Nat.reduceEqDiff]
  simp -dsimp -implicitDefEqProofs (disch := omega) only [↓reduceIte, ↓gA, gB, refs, den, hasTy, Ty.cmp, Ty.depth, reduceCtorEq, Nat.reduceAdd, Nat.reduceSub, Nat.reduceMul, Nat.reduceEqDiff, Nat.reduceLT, Nat.reduceLeDiff, Nat.reduceMod, Nat.reduceDiv, Nat.reducePow, Nat.reduceBEq, Int.reduceToNat, Int.reduceLE, Int.reduceLT, Int.reduceEq, Int.reduceAdd, Int.reduceMul, Int.reduceSub, Int.reduceNeg, Int.reduceNe, Tryd.TS, Tryd.EV, rep4]
  first | (with_reducible refine HCall_mono (gorder) ?_; rintro rs rfl) | (with_reducible refine HCallF_mono (gorder) (by first | rfl | simp [flatR, RV.flat, RV.isD, Ty.flat]) ?_) | (refine SCall.mono (gorder) ?_; rintro rs rfl)
  simp -dsimp -implicitDefEqProofs (disch := omega) only [↓reduceIte, ↓gA, gB, refs, den, hasTy, Ty.cmp, Ty.depth, reduceCtorEq, Nat.reduceAdd, Nat.reduceSub, Nat.reduceMul, Nat.reduceEqDiff, Nat.reduceLT, Nat.reduceLeDiff, Nat.reduceMod, Nat.reduceDiv, Nat.reducePow, Nat.reduceBEq, Int.reduceToNat, Int.reduceLE, Int.reduceLT, Int.reduceEq, Int.reduceAdd, Int.reduceMul, Int.reduceSub, Int.reduceNeg, Int.reduceNe, Tryd.TS, Tryd.EV, rep4]
  first | (with_reducible refine HCall_mono (waddmod a b 57896044618658097711785492504343953926634992332820282019728792003956564801911 ha hb (by omega) (by omega)) ?_; rintro rs rfl) | (with_reducible refine HCallF_mono (waddmod a b 57896044618658097711785492504343953926634992332820282019728792003956564801911 ha hb (by omega) (by omega)) (by first | rfl | simp [flatR, RV.flat, RV.isD, Ty.flat]) ?_) | (refine SCall.mono (waddmod a b 57896044618658097711785492504343953926634992332820282019728792003956564801911 ha hb (by omega) (by omega)) ?_; rintro rs rfl)
  simp -dsimp -implicitDefEqProofs (disch := omega) only [↓reduceIte, ↓gA, gB, refs, den, hasTy, Ty.cmp, Ty.depth, reduceCtorEq, Nat.reduceAdd, Nat.reduceSub, Nat.reduceMul, Nat.reduceEqDiff, Nat.reduceLT, Nat.reduceLeDiff, Nat.reduceMod, Nat.reduceDiv, Nat.reducePow, Nat.reduceBEq, Int.reduceToNat, Int.reduceLE, Int.reduceLT, Int.reduceEq, Int.reduceAdd, Int.reduceMul, Int.reduceSub, Int.reduceNeg, Int.reduceNe, Tryd.TS, Tryd.EV, rep4]

set_option maxHeartbeats 2000000 in
theorem gaddScalarRef (a b : Nat) (ha : a < 115792089237316195423570985008687907853269984665640564039457584007913129639936) (hb : b < 115792089237316195423570985008687907853269984665640564039457584007913129639936) : SCall Tryd.prog 15 [(.arr 4 (.int .u64), u256 a), (.arr 4 (.int .u64), u256 b)] (fun rs => rs = [.d (.arr 4 (.int .u64)) (u256 ((a + b) % 57896044618658097711785492504343953926634992332820282019728792003956564801911))]) := by
  refine scall_intro (n := 9) (rl := [.cell 4 45]) (us := [45]) Tryd.hT Tryd.func15 rfl rfl rfl rfl rfl (Nat.le_of_ble_eq_true rfl) ?_
  intro w0 hL0
  simp -dsimp -implicitDefEqProofs (disch := omega) only [↓reduceIte, ↓gA, gB, refs, den, hasTy, Ty.cmp, Ty.depth, reduceCtorEq, Nat.reduceAdd, Nat.reduceSub, Nat.reduceMul, Nat.reduceEqDiff, Nat.reduceLT, Nat.reduceLeDiff, Nat.reduceMod, Nat.reduceDiv, Nat.reducePow, Nat.reduceBEq, Int.reduceToNat, Int.reduceLE, Int.reduceLT, Int.reduceEq, Int.reduceAdd, Int.reduceMul, Int.reduceSub, Int.reduceNeg, Int.reduceNe, Tryd.TS, Tryd.EV, rep4]
  refine sdraw (id := 1) Tryd.hT (by kernel_rfl) [4] [] [0, 1, 2, 3, 4] (by kernel_rfl) (by kernel_rfl) (by kernel_rfl) ?_; simp only [gK, ↓reduceIte, Nat.reduceEqDiff]
  simp -dsimp -implicitDefEqProofs (disch := omega) only [↓reduceIte, ↓gA, gB, refs, den, hasTy, Ty.cmp, Ty.depth, reduceCtorEq, Nat.reduceAdd, Nat.reduceSub, Nat.reduceMul, Nat.reduceEqDiff, Nat.reduceLT, Nat.reduceLeDiff, Nat.reduceMod, Nat.reduceDiv, Nat.reducePow, Nat.reduceBEq, Int.reduceToNat, Int.reduceLE, Int.reduceLT, Int.reduceEq, Int.reduceAdd, Int.reduceMul, Int.reduceSub, Int.reduceNeg, Int.reduceNe, Tryd.TS, Tryd.EV, rep4]
  first | (with_reducible refine HCall_mono (gorderRef) ?_; rintro rs rfl) | (with_reducible refine HCallF_mono (gorderRef) (by first | rfl | simp [flatR, RV.flat, RV.isD, Ty.flat]) ?_) | (refine SCall.mono (gorderRef) ?_; rintro rs rfl)
  simp -dsimp -implicitDefEqProofs (disch := omega) only [↓reduceIte, ↓gA, gB, refs, den, hasTy, Ty.cmp, Ty.depth, reduceCtorEq, Nat.reduceAdd, Nat.reduceSub, Nat.reduceMul, Nat.reduceEqDiff, Nat.reduceLT, Nat.reduceLeDiff, Nat.reduceMod, Nat.reduceDiv, Nat.reducePow, Nat.reduceBEq, Int.reduceToNat, Int.reduceLE, Int.reduceLT, Int.reduceEq, Int.reduceAdd, Int.reduceMul, Int.reduceSub, Int.reduceNeg, Int.reduceNe, Tryd.TS, Tryd.EV, rep4]
  first | (with_reducible refine HCall_mono (waddmodRef a b 57896044618658097711785492504343953926634992332820282019728792003956564801911 ha hb (by omega) (by omega)) ?_; rintro rs rfl) | (with_reducible refine HCallF_mono (waddmodRef a b 57896044618658097711785492504343953926634992332820282019728792003956564801911 ha hb (by omega) (by omega)) (by first | rfl | simp [flatR, RV.flat, RV.isD, Ty.flat]) ?_) | (refine SCall.mono (waddmodRef a b 57896044618658097711785492504343953926634992332820282019728792003956564801911 ha hb (by omega) (by omega)) ?_; rintro rs rfl)
  simp -dsimp -implicitDefEqProofs (disch := omega) only [↓reduceIte, ↓gA, gB, refs, den, hasTy, Ty.cmp, Ty.depth, reduceCtorEq, Nat.reduceAdd, Nat.reduceSub, Nat.reduceMul, Nat.reduceEqDiff, Nat.reduceLT, Nat.reduceLeDiff, Nat.reduceMod, Nat.reduceDiv, Nat.reducePow, Nat.reduceBEq, Int.reduceToNat, Int.reduceLE, Int.reduceLT, Int.reduceEq, Int.reduceAdd, Int.reduceMul, Int.reduceSub, Int.reduceNeg, Int.reduceNe, Tryd.TS, Tryd.EV, rep4]

set_option maxHeartbeats 2000000 in
theorem gmulScalar (a b : Nat) (ha : a < 115792089237316195423570985008687907853269984665640564039457584007913129639936) (hb : b < 115792089237316195423570985008687907853269984665640564039457584007913129639936) : SCall Tryd.prog 43 [(.arr 4 (.int .u64), u256 a), (.arr 4 (.int .u64), u256 b)] (fun rs => rs = [.d (.arr 4 (.int .u64)) (u256 (a * b % 57896044618658097711785492504343953926634992332820282019728792003956564801911))]) := by
  refine scall_intro (n := 9) (rl := [.cell 4 45]) (us := [45]) Tryd.hT Tryd.func43 rfl rfl rfl rfl rfl (Nat.le_of_ble_eq_true rfl) ?_
  intro w0 hL0
  simp -dsimp -implicitDefEqProofs (disch := omega) only [↓reduceIte, ↓gA, gB, refs, den, hasTy, Ty.cmp, Ty.depth, reduceCtorEq, Nat.reduceAdd, Nat.reduceSub, Nat.reduceMul, Nat.reduceEqDiff, Nat.reduceLT, Nat.reduceLeDiff, Nat.reduceMod, Nat.reduceDiv, Nat.reducePow, Nat.reduceBEq, Int.reduceToNat, Int.reduceLE, Int.reduceLT, Int.reduceEq, Int.reduceAdd, Int.reduceMul, Int.reduceSub, Int.reduceNeg, Int.reduceNe, Tryd.TS, Tryd.EV, rep4]
  refine sdraw (id := 1) Tryd.hT (by kernel_rfl) [4] [] [0, 1, 2, 3, 4] (by kernel_rfl) (by kernel_rfl) (by kernel_rfl) ?_; simp only [gK, ↓reduceIte, Nat.reduceEqDiff]
  simp -dsimp -implicitDefEqProofs (disch := omega) only [↓reduceIte, ↓gA, gB, refs, den, hasTy, Ty.cmp, Ty.depth, reduceCtorEq, Nat.reduceAdd, Nat.reduceSub, Nat.reduceMul, Nat.reduceEqDiff, Nat.reduceLT, Nat.reduceLeDiff, Nat.reduceMod, Nat.reduceDiv, Nat.reducePow, Nat.reduceBEq, Int.reduceToNat, Int.reduceLE, Int.reduceLT, Int.reduceEq, Int.reduceAdd, Int.reduceMul, Int.reduceSub, Int.reduceNeg, Int.reduceNe, Tryd.TS, Tryd.EV, rep4]
  first | (with_reducible refine HCall_mono (gorder) ?_; rintro rs rfl) | (with_reducible refine HCallF_mono (gorder) (by first | rfl | simp [flatR, RV.flat, RV.isD, Ty.flat]) ?_) | (refine SCall.mono (gorder) ?_; rintro rs rfl)
  simp -dsimp -implicitDefEqProofs (disch := omega) only [↓reduceIte, ↓gA, gB, refs, den, hasTy, Ty.cmp, Ty.depth, reduceCtorEq, Nat.reduceAdd, Nat.reduceSub, Nat.reduceMul, Nat.reduceEqDiff, Nat.reduceLT, Nat.reduceLeDiff, Nat.reduceMod, Nat.reduceDiv, Nat.reducePow, Nat.reduceBEq, Int.reduceToNat, Int.reduceLE, Int.reduceLT, Int.reduceEq, Int.reduceAdd, Int.reduceMul, Int.reduceSub, Int.reduceNeg, Int.reduceNe, Tryd.TS, Tryd.EV, rep4]
  first | (with_reducible refine HCall_mono (wmulmod a b 57896044618658097711785492504343953926634992332820282019728792003956564801911 ha hb (by omega) (by omega)) ?_; rintro rs rfl) | (with_reducible refine HCallF_mono (wmulmod a b 57896044618658097711785492504343953926634992332820282019728792003956564801911 ha hb (by omega) (by omega)) (by first | rfl | simp [flatR, RV.flat, RV.isD, Ty.flat]) ?_) | (refine SCall.mono (wmulmod a b 57896044618658097711785492504343953926634992332820282019728792003956564801911 ha hb (by omega) (by omega)) ?_; rintro rs rfl)
  simp -dsimp -implicitDefEqProofs (disch := omega) only [↓reduceIte, ↓gA, gB, refs, den, hasTy, Ty.cmp, Ty.depth, reduceCtorEq, Nat.reduceAdd, Nat.reduceSub, Nat.reduceMul, Nat.reduceEqDiff, Nat.reduceLT, Nat.reduceLeDiff, Nat.reduceMod, Nat.reduceDiv, Nat.reducePow, Nat.reduceBEq, Int.reduceToNat, Int.reduceLE, Int.reduceLT, Int.reduceEq, Int.reduceAdd, Int.reduceMul, Int.reduceSub, Int.reduceNeg, Int.reduceNe, Tryd.TS, Tryd.EV, rep4]

set_option maxHeartbeats 2000000 in
theorem gscalarRef (d : List D) (hB : BY d) (hd : d.length = 32) : SCall Tryd.prog 11 [(.arr 32 (.int .u8), .l d)] (fun rs => rs = [.d (.arr 4 (.int .u64)) (u256 (fb d % 57896044618658097711785492504343953926634992332820282019728792003956564801911))]) := by
  have h1 := gaddScalarRef (fb d) 0 (fb_lt hB) (by omega)
  rw [Nat.add_zero, ← u256_zero] at h1
  refine scall_intro (n := 7) (rl := [.cell 2 45]) (us := [45]) Tryd.hT Tryd.func11 rfl rfl rfl rfl rfl (Nat.le_of_ble_eq_true rfl) ?_
  intro w0 hL0
  simp -dsimp -implicitDefEqProofs (disch := omega) only [↓reduceIte, ↓gA, gB, refs, den, hasTy, Ty.cmp, Ty.depth, reduceCtorEq, Nat.reduceAdd, Nat.reduceSub, Nat.reduceMul, Nat.reduceEqDiff, Nat.reduceLT, Nat.reduceLeDiff, Nat.reduceMod, Nat.reduceDiv, Nat.reducePow, Nat.reduceBEq, Int.reduceToNat, Int.reduceLE, Int.reduceLT, Int.reduceEq, Int.reduceAdd, Int.reduceMul, Int.reduceSub, Int.reduceNeg, Int.reduceNe, Tryd.TS, Tryd.EV, rep4]
  first | (with_reducible refine HCall_mono (wfromBytesRef d hB hd) ?_; rintro rs rfl) | (with_reducible refine HCallF_mono (wfromBytesRef d hB hd) (by first | rfl | simp [flatR, RV.flat, RV.isD, Ty.flat]) ?_) | (refine SCall.mono (wfromBytesRef d hB hd) ?_; rintro rs rfl)
  simp -dsimp -implicitDefEqProofs (disch := omega) only [↓reduceIte, ↓gA, gB, refs, den, hasTy, Ty.cmp, Ty.depth, reduceCtorEq, Nat.reduceAdd, Nat.reduceSub, Nat.reduceMul, Nat.reduceEqDiff, Nat.reduceLT, Nat.reduceLeDiff, Nat.reduceMod, Nat.reduceDiv, Nat.reducePow, Nat.reduceBEq, Int.reduceToNat, Int.reduceLE, Int.reduceLT, Int.reduceEq, Int.reduceAdd, Int.reduceMul, Int.reduceSub, Int.reduceNeg, Int.reduceNe, Tryd.TS, Tryd.EV, rep4]
  first | (with_reducible refine HCall_mono (h1) ?_; rintro rs rfl) | (with_reducible refine HCallF_mono (h1) (by first | rfl | simp [flatR, RV.flat, RV.isD, Ty.flat]) ?_) | (refine SCall.mono (h1) ?_; rintro rs rfl)
  simp -dsimp -implicitDefEqProofs (disch := omega) only [↓reduceIte, ↓gA, gB, refs, den, hasTy, Ty.cmp, Ty.depth, reduceCtorEq, Nat.reduceAdd, Nat.reduceSub, Nat.reduceMul, Nat.reduceEqDiff, Nat.reduceLT, Nat.reduceLeDiff, Nat.reduceMod, Nat.reduceDiv, Nat.reducePow, Nat.reduceBEq, Int.reduceToNat, Int.reduceLE, Int.reduceLT, Int.reduceEq, Int.reduceAdd, Int.reduceMul, Int.reduceSub, Int.reduceNeg, Int.reduceNe, Tryd.TS, Tryd.EV, rep4]

/-- The negative of a scalar. -/
def ngq (a : Nat) : Nat := (0 % 57896044618658097711785492504343953926634992332820282019728792003956564801911 + 57896044618658097711785492504343953926634992332820282019728792003956564801911 - a % 57896044618658097711785492504343953926634992332820282019728792003956564801911) % 57896044618658097711785492504343953926634992332820282019728792003956564801911
theorem ngq_lt (a : Nat) : ngq a < 57896044618658097711785492504343953926634992332820282019728792003956564801911 := Nat.mod_lt _ (by omega)

set_option maxHeartbeats 2000000 in
theorem gnegScalar (a : Nat) (ha : a < 115792089237316195423570985008687907853269984665640564039457584007913129639936) : SCall Tryd.prog 51 [(.arr 4 (.int .u64), u256 a)] (fun rs => rs = [.d (.arr 4 (.int .u64)) (u256 (ngq a))]) := by
  have h1 := wsubmod 0 a 57896044618658097711785492504343953926634992332820282019728792003956564801911 (by omega) ha (by omega) (by omega)
  rw [← u256_zero] at h1
  refine scall_intro (n := 7) (rl := [.cell 2 45]) (us := [45]) Tryd.hT Tryd.func51 rfl rfl rfl rfl rfl (Nat.le_of_ble_eq_true rfl) ?_
  intro w0 hL0
  simp -dsimp -implicitDefEqProofs (disch := omega) only [↓reduceIte, ↓gA, gB, refs, den, hasTy, Ty.cmp, Ty.depth, reduceCtorEq, Nat.reduceAdd, Nat.reduceSub, Nat.reduceMul, Nat.reduceEqDiff, Nat.reduceLT, Nat.reduceLeDiff, Nat.reduceMod, Nat.reduceDiv, Nat.reducePow, Nat.reduceBEq, Int.reduceToNat, Int.reduceLE, Int.reduceLT, Int.reduceEq, Int.reduceAdd, Int.reduceMul, Int.reduceSub, Int.reduceNeg, Int.reduceNe, Tryd.TS, Tryd.EV, rep4]
  refine sdraw (id := 1) Tryd.hT (by kernel_rfl) [4] [] [0, 1, 2, 3, 4] (by kernel_rfl) (by kernel_rfl) (by kernel_rfl) ?_; simp only [gK, ↓reduceIte, Nat.reduceEqDiff]
  simp -dsimp -implicitDefEqProofs (disch := omega) only [↓reduceIte, ↓gA, gB, refs, den, hasTy, Ty.cmp, Ty.depth, reduceCtorEq, Nat.reduceAdd, Nat.reduceSub, Nat.reduceMul, Nat.reduceEqDiff, Nat.reduceLT, Nat.reduceLeDiff, Nat.reduceMod, Nat.reduceDiv, Nat.reducePow, Nat.reduceBEq, Int.reduceToNat, Int.reduceLE, Int.reduceLT, Int.reduceEq, Int.reduceAdd, Int.reduceMul, Int.reduceSub, Int.reduceNeg, Int.reduceNe, Tryd.TS, Tryd.EV, rep4]
  first | (with_reducible refine HCall_mono (gorder) ?_; rintro rs rfl) | (with_reducible refine HCallF_mono (gorder) (by first | rfl | simp [flatR, RV.flat, RV.isD, Ty.flat]) ?_) | (refine SCall.mono (gorder) ?_; rintro rs rfl)
  simp -dsimp -implicitDefEqProofs (disch := omega) only [↓reduceIte, ↓gA, gB, refs, den, hasTy, Ty.cmp, Ty.depth, reduceCtorEq, Nat.reduceAdd, Nat.reduceSub, Nat.reduceMul, Nat.reduceEqDiff, Nat.reduceLT, Nat.reduceLeDiff, Nat.reduceMod, Nat.reduceDiv, Nat.reducePow, Nat.reduceBEq, Int.reduceToNat, Int.reduceLE, Int.reduceLT, Int.reduceEq, Int.reduceAdd, Int.reduceMul, Int.reduceSub, Int.reduceNeg, Int.reduceNe, Tryd.TS, Tryd.EV, rep4]
  first | (with_reducible refine HCall_mono (h1) ?_; rintro rs rfl) | (with_reducible refine HCallF_mono (h1) (by first | rfl | simp [flatR, RV.flat, RV.isD, Ty.flat]) ?_) | (refine SCall.mono (h1) ?_; rintro rs rfl)
  simp -dsimp -implicitDefEqProofs (disch := omega) only [↓reduceIte, ↓gA, gB, refs, den, hasTy, Ty.cmp, Ty.depth, reduceCtorEq, Nat.reduceAdd, Nat.reduceSub, Nat.reduceMul, Nat.reduceEqDiff, Nat.reduceLT, Nat.reduceLeDiff, Nat.reduceMod, Nat.reduceDiv, Nat.reducePow, Nat.reduceBEq, Int.reduceToNat, Int.reduceLE, Int.reduceLT, Int.reduceEq, Int.reduceAdd, Int.reduceMul, Int.reduceSub, Int.reduceNeg, Int.reduceNe, Tryd.TS, Tryd.EV, rep4]
  rfl

set_option maxHeartbeats 2000000 in
theorem gnegScalarRef (a : Nat) (ha : a < 115792089237316195423570985008687907853269984665640564039457584007913129639936) : SCall Tryd.prog 55 [(.arr 4 (.int .u64), u256 a)] (fun rs => rs = [.d (.arr 4 (.int .u64)) (u256 (ngq a))]) := by
  have h1 := wsubmodRef 0 a 57896044618658097711785492504343953926634992332820282019728792003956564801911 (by omega) ha (by omega) (by omega)
  rw [← u256_zero] at h1
  refine scall_intro (n := 7) (rl := [.cell 2 45]) (us := [45]) Tryd.hT Tryd.func55 rfl rfl rfl rfl rfl (Nat.le_of_ble_eq_true rfl) ?_
  intro w0 hL0
  simp -dsimp -implicitDefEqProofs (disch := omega) only [↓reduceIte, ↓gA, gB, refs, den, hasTy, Ty.cmp, Ty.depth, reduceCtorEq, Nat.reduceAdd, Nat.reduceSub, Nat.reduceMul, Nat.reduceEqDiff, Nat.reduceLT, Nat.reduceLeDiff, Nat.reduceMod, Nat.reduceDiv, Nat.reducePow, Nat.reduceBEq, Int.reduceToNat, Int.reduceLE, Int.reduceLT, Int.reduceEq, Int.reduceAdd, Int.reduceMul, Int.reduceSub, Int.reduceNeg, Int.reduceNe, Tryd.TS, Tryd.EV, rep4]
  refine sdraw (id := 1) Tryd.hT (by kernel_rfl) [4] [] [0, 1, 2, 3, 4] (by kernel_rfl) (by kernel_rfl) (by kernel_rfl) ?_; simp only [gK, ↓reduceIte, Nat.reduceEqDiff]
  simp -dsimp -implicitDefEqProofs (disch := omega) only [↓reduceIte, ↓gA, gB, refs, den, hasTy, Ty.cmp, Ty.depth, reduceCtorEq, Nat.reduceAdd, Nat.reduceSub, Nat.reduceMul, Nat.reduceEqDiff, Nat.reduceLT, Nat.reduceLeDiff, Nat.reduceMod, Nat.reduceDiv, Nat.reducePow, Nat.reduceBEq, Int.reduceToNat, Int.reduceLE, Int.reduceLT, Int.reduceEq, Int.reduceAdd, Int.reduceMul, Int.reduceSub, Int.reduceNeg, Int.reduceNe, Tryd.TS, Tryd.EV, rep4]
  first | (with_reducible refine HCall_mono (gorderRef) ?_; rintro rs rfl) | (with_reducible refine HCallF_mono (gorderRef) (by first | rfl | simp [flatR, RV.flat, RV.isD, Ty.flat]) ?_) | (refine SCall.mono (gorderRef) ?_; rintro rs rfl)
  simp -dsimp -implicitDefEqProofs (disch := omega) only [↓reduceIte, ↓gA, gB, refs, den, hasTy, Ty.cmp, Ty.depth, reduceCtorEq, Nat.reduceAdd, Nat.reduceSub, Nat.reduceMul, Nat.reduceEqDiff, Nat.reduceLT, Nat.reduceLeDiff, Nat.reduceMod, Nat.reduceDiv, Nat.reducePow, Nat.reduceBEq, Int.reduceToNat, Int.reduceLE, Int.reduceLT, Int.reduceEq, Int.reduceAdd, Int.reduceMul, Int.reduceSub, Int.reduceNeg, Int.reduceNe, Tryd.TS, Tryd.EV, rep4]
  first | (with_reducible refine HCall_mono (h1) ?_; rintro rs rfl) | (with_reducible refine HCallF_mono (h1) (by first | rfl | simp [flatR, RV.flat, RV.isD, Ty.flat]) ?_) | (refine SCall.mono (h1) ?_; rintro rs rfl)
  simp -dsimp -implicitDefEqProofs (disch := omega) only [↓reduceIte, ↓gA, gB, refs, den, hasTy, Ty.cmp, Ty.depth, reduceCtorEq, Nat.reduceAdd, Nat.reduceSub, Nat.reduceMul, Nat.reduceEqDiff, Nat.reduceLT, Nat.reduceLeDiff, Nat.reduceMod, Nat.reduceDiv, Nat.reducePow, Nat.reduceBEq, Int.reduceToNat, Int.reduceLE, Int.reduceLT, Int.reduceEq, Int.reduceAdd, Int.reduceMul, Int.reduceSub, Int.reduceNeg, Int.reduceNe, Tryd.TS, Tryd.EV, rep4]
  rfl
end Go.Proofs
/- Powers of the generator; inverses. -/
namespace Go.Proofs
open Go.SE

theorem p4_q {q : Nat} (hq : q = 57896044618658097711785492504343953926634992332820282019728792003956564801911) (k : Nat) : 4 ^ (q * k) % 115792089237316195423570985008687907853269984665640564039457584007913129603823 = 1 := by
  rw [Nat.pow_mul, Nat.pow_mod, four_q hq, Nat.one_pow]
theorem p4_mod {q : Nat} (hq : q = 57896044618658097711785492504343953926634992332820282019728792003956564801911) (k : Nat) : 4 ^ (k % q) % 115792089237316195423570985008687907853269984665640564039457584007913129603823 = 4 ^ k % 115792089237316195423570985008687907853269984665640564039457584007913129603823 := by
  have h := Nat.div_add_mod k q
  have h2 : 4 ^ k = 4 ^ (q * (k / q)) * 4 ^ (k % q) := by rw [← Nat.pow_add, h]
  rw [h2, Nat.mul_mod, p4_q hq, Nat.one_mul, Nat.mod_mod]
theorem p4_ne {q : Nat} (hq : q = 57896044618658097711785492504343953926634992332820282019728792003956564801911) (k : Nat) : 4 ^ k % 115792089237316195423570985008687907853269984665640564039457584007913129603823 ≠ 0 := by
  intro h
  have h1 := p4_q hq k
  rw [Nat.mul_comm, Nat.pow_mul, Nat.pow_mod, h] at h1
  rw [Nat.zero_pow (by omega)] at h1
  simp at h1
theorem p4_lt (k : Nat) : 4 ^ k % 115792089237316195423570985008687907853269984665640564039457584007913129603823 < 115792089237316195423570985008687907853269984665640564039457584007913129603823 := Nat.mod_lt _ (by omega)
theorem p4_mem {q : Nat} (hq : q = 57896044618658097711785492504343953926634992332820282019728792003956564801911) (k : Nat) : mem q (4 ^ k % 115792089237316195423570985008687907853269984665640564039457584007913129603823) = true := by
  rw [mem_eq (Nat.pos_of_ne_zero (p4_ne hq k)) (p4_lt k), ← Nat.pow_mod, ← Nat.pow_mul, Nat.mul_comm, p4_q hq]
  rfl
theorem p4_mul (a b : Nat) : (4 ^ a % 115792089237316195423570985008687907853269984665640564039457584007913129603823) * (4 ^ b % 115792089237316195423570985008687907853269984665640564039457584007913129603823) % 115792089237316195423570985008687907853269984665640564039457584007913129603823 = 4 ^ (a + b) % 115792089237316195423570985008687907853269984665640564039457584007913129603823 := by
  rw [Nat.pow_add, ← Nat.mul_mod]
theorem p4_pow (a r : Nat) : (4 ^ a % 115792089237316195423570985008687907853269984665640564039457584007913129603823) ^ r % 115792089237316195423570985008687907853269984665640564039457584007913129603823 = 4 ^ (a * r) % 115792089237316195423570985008687907853269984665640564039457584007913129603823 := by
  rw [Nat.pow_mul, ← Nat.pow_mod]
theorem p4_inv {q r : Nat} (hq : q = 57896044618658097711785492504343953926634992332820282019728792003956564801911) (hr : r = 115792089237316195423570985008687907853269984665640564039457584007913129603823 - 2) (a : Nat) : 4 ^ (a + a * r) % 115792089237316195423570985008687907853269984665640564039457584007913129603823 = 1 := by
  have h : a + a * r = q * (2 * a) := by
    have h1 : 1 + r = q * 2 := by omega
    rw [← Nat.mul_assoc, ← h1, Nat.add_mul, Nat.one_mul, Nat.mul_comm r]
  rw [h, p4_q hq]

end Go.Proofs
/- The digest: rotations, the schedule. -/
namespace Go.Proofs
open Go.SE

def rotI (x : Int) (k : Nat) : Int := bits .or .u32 (IntKind.u32.wrap (x * 2 ^ (32 - k))) (x.fdiv (2 ^ k))
theorem neg31 {k : Nat} (h : 0 < k ∧ k < 32) : bits .and .u64 (IntKind.u64.wrap (-(k : Int))) 31 = ((32 - k : Nat) : Int) := by
  rw [IntKind.wrap_u64, show (-(k : Int)) % 18446744073709551616 = ((18446744073709551616 - k : Nat) : Int) by omega]
  have := u64_and_nat (18446744073709551616 - k) 31 (by omega) (by omega)
  rw [show ((31 : Nat) : Int) = 31 from rfl] at this
  rw [this]
  congr 1
  rw [Nat.and_two_pow_sub_one_eq_mod _ 5]
  omega

set_option maxHeartbeats 2000000 in
theorem rotl32 (x : Int) (k : Nat) (hk : 0 < k ∧ k < 32) : SCall Tryd.prog 123 [(.int .u32, .n x), (.int .i64, .n (-(k : Int)))] (fun rs => rs = [.d (.int .u32) (.n (rotI x k))]) := by
  have h1 := neg31 hk
  have h2 : IntKind.u64.wrap (32 - ((32 - k : Nat) : Int)) = (k : Int) := by rw [IntKind.wrap_u64]; omega
  have h3 : min (32 - k) IntKind.u32.bits = 32 - k := by show min (32 - k) 32 = 32 - k; omega
  have h4 : min k IntKind.u32.bits = k := by show min k 32 = k; omega
  refine scall_intro (n := 17) (rl := [.tmp 4]) (us := [22]) Tryd.hT Tryd.func123 rfl rfl rfl rfl rfl (Nat.le_of_ble_eq_true rfl) ?_
  intro w0 hL0
  simp -dsimp -implicitDefEqProofs (disch := omega) only [↓reduceIte, ↓gA, gB, refs, den, hasTy, Ty.cmp, Ty.depth, reduceCtorEq, Nat.reduceAdd, Nat.reduceSub, Nat.reduceMul, Nat.reduceEqDiff, Nat.reduceLT, Nat.reduceLeDiff, Nat.reduceMod, Nat.reduceDiv, Nat.reducePow, Nat.reduceBEq, Int.reduceToNat, Int.reduceLE, Int.reduceLT, Int.reduceEq, Int.reduceAdd, Int.reduceMul, Int.reduceSub, Int.reduceNeg, Int.reduceNe, Tryd.TS, Tryd.EV, h1, h2, h3, h4, Int.toNat_natCast]
  refine ⟨by omega, by omega, ?_⟩
  rfl

set_option maxHeartbeats 2000000 in
theorem rotr' (x : Int) (k : Nat) (hk : 0 < k ∧ k < 32) : SCall Tryd.prog 121 [(.int .u32, .n x), (.int .i64, .n k)] (fun rs => rs = [.d (.int .u32) (.n (rotI x k))]) := by
  refine scall_intro (n := 9) (rl := [.tmp 4]) (us := [22]) Tryd.hT Tryd.func121 rfl rfl rfl rfl rfl (Nat.le_of_ble_eq_true rfl) ?_
  intro w0 hL0
  simp -dsimp -implicitDefEqProofs (disch := omega) only [↓reduceIte, ↓gA, gB, refs, den, hasTy, Ty.cmp, Ty.depth, reduceCtorEq, Nat.reduceAdd, Nat.reduceSub, Nat.reduceMul, Nat.reduceEqDiff, Nat.reduceLT, Nat.reduceLeDiff, Nat.reduceMod, Nat.reduceDiv, Nat.reducePow, Nat.reduceBEq, Int.reduceToNat, Int.reduceLE, Int.reduceLT, Int.reduceEq, Int.reduceAdd, Int.reduceMul, Int.reduceSub, Int.reduceNeg, Int.reduceNe, Tryd.TS, Tryd.EV]
  simp -dsimp -implicitDefEqProofs (disch := omega) only [↓reduceIte, ↓gA, gB, refs, den, hasTy, Ty.cmp, Ty.depth, reduceCtorEq, Nat.reduceAdd, Nat.reduceSub, Nat.reduceMul, Nat.reduceEqDiff, Nat.reduceLT, Nat.reduceLeDiff, Nat.reduceMod, Nat.reduceDiv, Nat.reducePow, Nat.reduceBEq, Int.reduceToNat, Int.reduceLE, Int.reduceLT, Int.reduceEq, Int.reduceAdd, Int.reduceMul, Int.reduceSub, Int.reduceNeg, Int.reduceNe, Tryd.TS, Tryd.EV, Int.zero_sub]
  first | (with_reducible refine HCall_mono (rotl32 x k hk) ?_; rintro rs rfl) | (with_reducible refine HCallF_mono (rotl32 x k hk) (by first | rfl | simp [flatR, RV.flat, RV.isD, Ty.flat]) ?_) | (refine SCall.mono (rotl32 x k hk) ?_; rintro rs rfl)
  simp -dsimp -implicitDefEqProofs (disch := omega) only [↓reduceIte, ↓gA, gB, refs, den, hasTy, Ty.cmp, Ty.depth, reduceCtorEq, Nat.reduceAdd, Nat.reduceSub, Nat.reduceMul, Nat.reduceEqDiff, Nat.reduceLT, Nat.reduceLeDiff, Nat.reduceMod, Nat.reduceDiv, Nat.reducePow, Nat.reduceBEq, Int.reduceToNat, Int.reduceLE, Int.reduceLT, Int.reduceEq, Int.reduceAdd, Int.reduceMul, Int.reduceSub, Int.reduceNeg, Int.reduceNe, Tryd.TS, Tryd.EV]

def il (l : List Int) : D := .l (l.map .n)
theorem il_at (l : List Int) (k : Nat) : D.at (il l) k = .n (l.getD k 0) := by
  simp only [D.at, il, D.list, List.getD_eq_getElem?_getD, List.getElem?_map]
  cases l[k]? with
  | none => rfl
  | some x => rfl
theorem il_set (l : List Int) (k : Nat) (v : Int) : D.l ((il l).list.set k (.n v)) = il (l.set k v) := by
  simp only [il, D.list, List.map_set]
theorem il_len (l : List Int) : (il l).list.length = l.length := by simp [il, D.list]
theorem il_zero (n : Nat) : D.l (List.replicate n (.n 0)) = il (List.replicate n 0) := by simp [il]

/-- The words of a block after i bytes. -/
def sch1 (d : List D) : Nat → List Int
  | 0 => List.replicate 64 0
  | i + 1 => (sch1 d i).set (i / 4) (bits .or .u32 (IntKind.u32.wrap ((sch1 d i).getD (i / 4) 0 * 256)) (byt d i))
theorem sch1_len (d : List D) : ∀ i, (sch1 d i).length = 64
  | 0 => by simp [sch1]
  | i + 1 => by rw [sch1, List.length_set, sch1_len d i]
theorem sh8 : (2 : Int) ^ min 8 IntKind.u32.bits = 256 := rfl
theorem sh3 : (2 : Int) ^ min 3 IntKind.u32.bits = 8 := rfl
theorem sh10 : (2 : Int) ^ min 10 IntKind.u32.bits = 1024 := rfl
def sg0 (x : Int) : Int := bits .xor .u32 (bits .xor .u32 (rotI x 7) (rotI x 18)) (x.fdiv 8)
def sg1 (x : Int) : Int := bits .xor .u32 (bits .xor .u32 (rotI x 17) (rotI x 19)) (x.fdiv 1024)
/-- The words after k more. -/
def sch2 (l : List Int) : Nat → List Int
  | 0 => l
  | k + 1 => (sch2 l k).set (16 + k) (IntKind.u32.wrap (IntKind.u32.wrap (IntKind.u32.wrap ((sch2 l k).getD k 0 + sg0 ((sch2 l k).getD (k + 1) 0)) + (sch2 l k).getD (k + 9) 0) + sg1 ((sch2 l k).getD (k + 14) 0)))
theorem sch2_len (l : List Int) : ∀ k, (sch2 l k).length = l.length
  | 0 => rfl
  | k + 1 => by rw [sch2, List.length_set, sch2_len l k]
theorem td4 {a : Nat} : (a : Int).tdiv 4 = ((a / 4 : Nat) : Int) := rfl

set_option maxHeartbeats 4000000 in
theorem schedule' (d : List D) (hB : BY d) (hd : d.length = 64) : SCall Tryd.prog 120 [(.arr 64 (.int .u8), .l d)] (fun rs => rs = [.d (.arr 64 (.int .u32)) (il (sch2 (sch1 d 64) 48))]) := by
  refine scall_intro (n := 80) (rl := [.cell 2 124]) (us := [124]) Tryd.hT Tryd.func120 rfl rfl rfl rfl rfl (Nat.le_of_ble_eq_true rfl) ?_
  intro w0 hL0
  simp -dsimp -implicitDefEqProofs (disch := omega) only [↓reduceIte, ↓gA, gB, refs, den, hasTy, Ty.cmp, Ty.depth, reduceCtorEq, Nat.reduceAdd, Nat.reduceSub, Nat.reduceMul, Nat.reduceEqDiff, Nat.reduceLT, Nat.reduceLeDiff, Nat.reduceMod, Nat.reduceDiv, Nat.reducePow, Nat.reduceBEq, Int.reduceToNat, Int.reduceLE, Int.reduceLT, Int.reduceEq, Int.reduceAdd, Int.reduceMul, Int.reduceSub, Int.reduceNeg, Int.reduceNe, Tryd.TS, Tryd.EV, il_zero]
  refine sloop Tryd.hT (α := Nat) (fun i => ⟨80, [(10, .v (.d (.int .i64) (.n i))), (9, .v (.d (.arr 64 (.int .u8)) (.l d))), (3, .v (.ptr 2 [])), (2, .v (.ptr 1 []))], [(1, ⟨.arr 64 (.int .u32), .d (.arr 64 (.int .u32)) (il (List.replicate 64 0))⟩), (2, ⟨.arr 64 (.int .u32), .d (.arr 64 (.int .u32)) (il (sch1 d i))⟩)], 3⟩) (fun i => i ≤ 64) (fun i => 64 - i) 0 ?_ (Nat.zero_le _) ?_
  · refine sub_ren w0 hL0 [(1, 1), (2, 2)] rfl rfl (by simp [keysLt]) rfl ?_ ?_
    · simp [renTm, Go.SE.look, renTV, renSV]
    · simp [renOb, Go.SE.look, renSV, sch1]
  · intro i hi
    simp -dsimp -implicitDefEqProofs (disch := omega) only [↓reduceIte, ↓gA, gB, refs, den, hasTy, Ty.cmp, Ty.depth, reduceCtorEq, Nat.reduceAdd, Nat.reduceSub, Nat.reduceMul, Nat.reduceEqDiff, Nat.reduceLT, Nat.reduceLeDiff, Nat.reduceMod, Nat.reduceDiv, Nat.reducePow, Nat.reduceBEq, Int.reduceToNat, Int.reduceLE, Int.reduceLT, Int.reduceEq, Int.reduceAdd, Int.reduceMul, Int.reduceSub, Int.reduceNeg, Int.reduceNe, Tryd.TS, Tryd.EV]
    refine HIf_dec (a := ()) (b := ()) (fun h => ?_) (fun h => ?_)
    · have hlt := hB.lt i
      have hl := sch1_len d i
      have hll := il_len (sch1 d i)
      simp -dsimp -implicitDefEqProofs (disch := omega) only [↓reduceIte, ↓gA, gB, refs, den, hasTy, Ty.cmp, Ty.depth, reduceCtorEq, Nat.reduceAdd, Nat.reduceSub, Nat.reduceMul, Nat.reduceEqDiff, Nat.reduceLT, Nat.reduceLeDiff, Nat.reduceMod, Nat.reduceDiv, Nat.reducePow, Nat.reduceBEq, Int.reduceToNat, Int.reduceLE, Int.reduceLT, Int.reduceEq, Int.reduceAdd, Int.reduceMul, Int.reduceSub, Int.reduceNeg, Int.reduceNe, Tryd.TS, Tryd.EV, td4, hB.int, il_at, sh8, il_set]
      repeat (refine And.intro (by omega) ?_)
      refine ⟨i + 1, by omega, by omega, ?_⟩
      refine sub_ren w0 hL0 [(1, 1), (2, 2)] rfl rfl (by simp [keysLt]) rfl ?_ ?_
      · simp [renTm, Go.SE.look, renTV, renSV]
      · simp [renOb, Go.SE.look, renSV, sch1]
    · simp -dsimp -implicitDefEqProofs (disch := omega) only [↓reduceIte, ↓gA, gB, refs, den, hasTy, Ty.cmp, Ty.depth, reduceCtorEq, Nat.reduceAdd, Nat.reduceSub, Nat.reduceMul, Nat.reduceEqDiff, Nat.reduceLT, Nat.reduceLeDiff, Nat.reduceMod, Nat.reduceDiv, Nat.reducePow, Nat.reduceBEq, Int.reduceToNat, Int.reduceLE, Int.reduceLT, Int.reduceEq, Int.reduceAdd, Int.reduceMul, Int.reduceSub, Int.reduceNeg, Int.reduceNe, Tryd.TS, Tryd.EV]
      have e : i = 64 := by omega
      subst e
      have hL := sch1_len d 64
      generalize sch1 d 64 = l at *
      refine sloop Tryd.hT (α := Nat) (fun k => ⟨80, [(6, .v (.d (.int .i64) (.n ((16 + k : Nat) : Int)))), (3, .v (.ptr 2 [])), (2, .v (.ptr 1 []))], [(1, ⟨.arr 64 (.int .u32), .d (.arr 64 (.int .u32)) (il (List.replicate 64 0))⟩), (2, ⟨.arr 64 (.int .u32), .d (.arr 64 (.int .u32)) (il (sch2 l k))⟩)], 3⟩) (fun k => k ≤ 48) (fun k => 48 - k) 0 ?_ (Nat.zero_le _) ?_
      · refine sub_ren w0 hL0 [(1, 1), (2, 2)] rfl rfl (by simp [keysLt]) rfl ?_ ?_
        · simp [renTm, Go.SE.look, renTV, renSV]
        · simp [renOb, Go.SE.look, renSV, sch2]
      · intro k hk
        simp -dsimp -implicitDefEqProofs (disch := omega) only [↓reduceIte, ↓gA, gB, refs, den, hasTy, Ty.cmp, Ty.depth, reduceCtorEq, Nat.reduceAdd, Nat.reduceSub, Nat.reduceMul, Nat.reduceEqDiff, Nat.reduceLT, Nat.reduceLeDiff, Nat.reduceMod, Nat.reduceDiv, Nat.reducePow, Nat.reduceBEq, Int.reduceToNat, Int.reduceLE, Int.reduceLT, Int.reduceEq, Int.reduceAdd, Int.reduceMul, Int.reduceSub, Int.reduceNeg, Int.reduceNe, Tryd.TS, Tryd.EV]
        refine HIf_dec (a := ()) (b := ()) (fun h2 => ?_) (fun h2 => ?_)
        · have hl := sch2_len l k
          have hll := il_len (sch2 l k)
          have e15 : ((16 + k : Nat) : Int) - 15 = ((k + 1 : Nat) : Int) := by omega
          have e2 : ((16 + k : Nat) : Int) - 2 = ((k + 14 : Nat) : Int) := by omega
          have e16 : ((16 + k : Nat) : Int) - 16 = ((k : Nat) : Int) := by omega
          have e7 : ((16 + k : Nat) : Int) - 7 = ((k + 9 : Nat) : Int) := by omega
          simp -dsimp -implicitDefEqProofs (disch := omega) only [↓reduceIte, ↓gA, gB, refs, den, hasTy, Ty.cmp, Ty.depth, reduceCtorEq, Nat.reduceAdd, Nat.reduceSub, Nat.reduceMul, Nat.reduceEqDiff, Nat.reduceLT, Nat.reduceLeDiff, Nat.reduceMod, Nat.reduceDiv, Nat.reducePow, Nat.reduceBEq, Int.reduceToNat, Int.reduceLE, Int.reduceLT, Int.reduceEq, Int.reduceAdd, Int.reduceMul, Int.reduceSub, Int.reduceNeg, Int.reduceNe, Tryd.TS, Tryd.EV]
          refine sdraw (id := 10) Tryd.hT (by kernel_rfl) [] [] [0, 1, 2, 3, 5, 6, 7, 8, 11, 12, 13, 14, 15, 4, 9, 10, 16, 17] (by kernel_rfl) (by kernel_rfl) (by kernel_rfl) ?_; simp only [gK, ↓reduceIte, Nat.reduceEqDiff]
          simp -dsimp -implicitDefEqProofs (disch := omega) only [↓reduceIte, ↓gA, gB, refs, den, hasTy, Ty.cmp, Ty.depth, reduceCtorEq, Nat.reduceAdd, Nat.reduceSub, Nat.reduceMul, Nat.reduceEqDiff, Nat.reduceLT, Nat.reduceLeDiff, Nat.reduceMod, Nat.reduceDiv, Nat.reducePow, Nat.reduceBEq, Int.reduceToNat, Int.reduceLE, Int.reduceLT, Int.reduceEq, Int.reduceAdd, Int.reduceMul, Int.reduceSub, Int.reduceNeg, Int.reduceNe, Tryd.TS, Tryd.EV, e15, il_at]
          repeat (refine And.intro (by omega) ?_)
          first | (with_reducible refine HCall_mono (rotr' ((sch2 l k).getD (k + 1) 0) 7 (by omega)) ?_; rintro rs rfl) | (with_reducible refine HCallF_mono (rotr' ((sch2 l k).getD (k + 1) 0) 7 (by omega)) (by first | rfl | simp [flatR, RV.flat, RV.isD, Ty.flat]) ?_) | (refine SCall.mono (rotr' ((sch2 l k).getD (k + 1) 0) 7 (by omega)) ?_; rintro rs rfl)
          simp -dsimp -implicitDefEqProofs (disch := omega) only [↓reduceIte, ↓gA, gB, refs, den, hasTy, Ty.cmp, Ty.depth, reduceCtorEq, Nat.reduceAdd, Nat.reduceSub, Nat.reduceMul, Nat.reduceEqDiff, Nat.reduceLT, Nat.reduceLeDiff, Nat.reduceMod, Nat.reduceDiv, Nat.reducePow, Nat.reduceBEq, Int.reduceToNat, Int.reduceLE, Int.reduceLT, Int.reduceEq, Int.reduceAdd, Int.reduceMul, Int.reduceSub, Int.reduceNeg, Int.reduceNe, Tryd.TS, Tryd.EV, e15, il_at]
          repeat (refine And.intro (by omega) ?_)
          first | (with_reducible refine HCall_mono (rotr' ((sch2 l k).getD (k + 1) 0) 18 (by omega)) ?_; rintro rs rfl) | (with_reducible refine HCallF_mono (rotr' ((sch2 l k).getD (k + 1) 0) 18 (by omega)) (by first | rfl | simp [flatR, RV.flat, RV.isD, Ty.flat]) ?_) | (refine SCall.mono (rotr' ((sch2 l k).getD (k + 1) 0) 18 (by omega)) ?_; rintro rs rfl)
          simp -dsimp -implicitDefEqProofs (disch := omega) only [↓reduceIte, ↓gA, gB, refs, den, hasTy, Ty.cmp, Ty.depth, reduceCtorEq, Nat.reduceAdd, Nat.reduceSub, Nat.reduceMul, Nat.reduceEqDiff, Nat.reduceLT, Nat.reduceLeDiff, Nat.reduceMod, Nat.reduceDiv, Nat.reducePow, Nat.reduceBEq, Int.reduceToNat, Int.reduceLE, Int.reduceLT, Int.reduceEq, Int.reduceAdd, Int.reduceMul, Int.reduceSub, Int.reduceNeg, Int.reduceNe, Tryd.TS, Tryd.EV, e15, il_at, sh3]
          repeat (refine And.intro (by omega) ?_)
          refine sdraw (id := 11) Tryd.hT (by kernel_rfl) [] [] [0, 1, 2, 3, 5, 6, 7, 8, 11, 12, 13, 14, 15, 4, 9, 10, 16, 17] (by kernel_rfl) (by kernel_rfl) (by kernel_rfl) ?_; simp only [gK, ↓reduceIte, Nat.reduceEqDiff]
          simp -dsimp -implicitDefEqProofs (disch := omega) only [↓reduceIte, ↓gA, gB, refs, den, hasTy, Ty.cmp, Ty.depth, reduceCtorEq, Nat.reduceAdd, Nat.reduceSub, Nat.reduceMul, Nat.reduceEqDiff, Nat.reduceLT, Nat.reduceLeDiff, Nat.reduceMod, Nat.reduceDiv, Nat.reducePow, Nat.reduceBEq, Int.reduceToNat, Int.reduceLE, Int.reduceLT, Int.reduceEq, Int.reduceAdd, Int.reduceMul, Int.reduceSub, Int.reduceNeg, Int.reduceNe, Tryd.TS, Tryd.EV, e2, il_at]
          repeat (refine And.intro (by omega) ?_)
          first | (with_reducible refine HCall_mono (rotr' ((sch2 l k).getD (k + 14) 0) 17 (by omega)) ?_; rintro rs rfl) | (with_reducible refine HCallF_mono (rotr' ((sch2 l k).getD (k + 14) 0) 17 (by omega)) (by first | rfl | simp [flatR, RV.flat, RV.isD, Ty.flat]) ?_) | (refine SCall.mono (rotr' ((sch2 l k).getD (k + 14) 0) 17 (by omega)) ?_; rintro rs rfl)
          simp -dsimp -implicitDefEqProofs (disch := omega) only [↓reduceIte, ↓gA, gB, refs, den, hasTy, Ty.cmp, Ty.depth, reduceCtorEq, Nat.reduceAdd, Nat.reduceSub, Nat.reduceMul, Nat.reduceEqDiff, Nat.reduceLT, Nat.reduceLeDiff, Nat.reduceMod, Nat.reduceDiv, Nat.reducePow, Nat.reduceBEq, Int.reduceToNat, Int.reduceLE, Int.reduceLT, Int.reduceEq, Int.reduceAdd, Int.reduceMul, Int.reduceSub, Int.reduceNeg, Int.reduceNe, Tryd.TS, Tryd.EV, e2, il_at]
          repeat (refine And.intro (by omega) ?_)
          first | (with_reducible refine HCall_mono (rotr' ((sch2 l k).getD (k + 14) 0) 19 (by omega)) ?_; rintro rs rfl) | (with_reducible refine HCallF_mono (rotr' ((sch2 l k).getD (k + 14) 0) 19 (by omega)) (by first | rfl | simp [flatR, RV.flat, RV.isD, Ty.flat]) ?_) | (refine SCall.mono (rotr' ((sch2 l k).getD (k + 14) 0) 19 (by omega)) ?_; rintro rs rfl)
          simp -dsimp -implicitDefEqProofs (disch := omega) only [↓reduceIte, ↓gA, gB, refs, den, hasTy, Ty.cmp, Ty.depth, reduceCtorEq, Nat.reduceAdd, Nat.reduceSub, Nat.reduceMul, Nat.reduceEqDiff, Nat.reduceLT, Nat.reduceLeDiff, Nat.reduceMod, Nat.reduceDiv, Nat.reducePow, Nat.reduceBEq, Int.reduceToNat, Int.reduceLE, Int.reduceLT, Int.reduceEq, Int.reduceAdd, Int.reduceMul, Int.reduceSub, Int.reduceNeg, Int.reduceNe, Tryd.TS, Tryd.EV, e2, il_at, sh10]
          repeat (refine And.intro (by omega) ?_)
          refine sdraw (id := 12) Tryd.hT (by kernel_rfl) [15] [] [0, 1, 2, 3, 4, 5, 6, 7, 8, 9, 10, 11, 12, 13, 14, 15] (by kernel_rfl) (by kernel_rfl) (by kernel_rfl) ?_; simp only [gK, ↓reduceIte, Nat.reduceEqDiff]
          simp -dsimp -implicitDefEqProofs (disch := omega) only [↓reduceIte, ↓gA, gB, refs, den, hasTy, Ty.cmp, Ty.depth, reduceCtorEq, Nat.reduceAdd, Nat.reduceSub, Nat.reduceMul, Nat.reduceEqDiff, Nat.reduceLT, Nat.reduceLeDiff, Nat.reduceMod, Nat.reduceDiv, Nat.reducePow, Nat.reduceBEq, Int.reduceToNat, Int.reduceLE, Int.reduceLT, Int.reduceEq, Int.reduceAdd, Int.reduceMul, Int.reduceSub, Int.reduceNeg, Int.reduceNe, Tryd.TS, Tryd.EV, e16, e7, il_at, il_set]
          repeat (refine And.intro (by omega) ?_)
          refine ⟨k + 1, by omega, by omega, ?_⟩
          refine sub_ren w0 hL0 [(1, 1), (2, 2)] rfl rfl (by simp [keysLt]) rfl ?_ ?_
          · simp [renTm, Go.SE.look, renTV, renSV]
            omega
          · simp [renOb, Go.SE.look, renSV, sch2, sg0, sg1, Nat.add_comm]
        · simp -dsimp -implicitDefEqProofs (disch := omega) only [↓reduceIte, ↓gA, gB, refs, den, hasTy, Ty.cmp, Ty.depth, reduceCtorEq, Nat.reduceAdd, Nat.reduceSub, Nat.reduceMul, Nat.reduceEqDiff, Nat.reduceLT, Nat.reduceLeDiff, Nat.reduceMod, Nat.reduceDiv, Nat.reducePow, Nat.reduceBEq, Int.reduceToNat, Int.reduceLE, Int.reduceLT, Int.reduceEq, Int.reduceAdd, Int.reduceMul, Int.reduceSub, Int.reduceNeg, Int.reduceNe, Tryd.TS, Tryd.EV]
          have e : k = 48 := by omega
          subst e
          rfl
end Go.Proofs
/- The digest: one block. -/
namespace Go.Proofs
open Go.SE

def kons : List Int := gdat1.list.map D.int
theorem gk : gdat1 = il kons := rfl
theorem kons_len : kons.length = 64 := rfl
def inits : List Int := gdat0.list.map D.int
theorem gi : gdat0 = il inits := rfl
theorem inits_len : inits.length = 8 := rfl

def cmS1 (e : Int) : Int := bits .xor .u32 (bits .xor .u32 (rotI e 6) (rotI e 11)) (rotI e 25)
def cmS0 (a : Int) : Int := bits .xor .u32 (bits .xor .u32 (rotI a 2) (rotI a 13)) (rotI a 22)
def cmCh (e f g : Int) : Int := bits .xor .u32 (bits .and .u32 e f) (bits .and .u32 (bits .xor .u32 (if IntKind.u32.signed = true then -1 else IntKind.u32.max) e) g)
def cmMj (a b c : Int) : Int := bits .xor .u32 (bits .xor .u32 (bits .and .u32 a b) (bits .and .u32 a c)) (bits .and .u32 b c)
def cmT1 (h : List Int) (k w : Int) : Int := IntKind.u32.wrap (IntKind.u32.wrap (IntKind.u32.wrap (IntKind.u32.wrap (h.getD 7 0 + cmS1 (h.getD 4 0)) + cmCh (h.getD 4 0) (h.getD 5 0) (h.getD 6 0)) + k) + w)
def cmT2 (h : List Int) : Int := IntKind.u32.wrap (cmS0 (h.getD 0 0) + cmMj (h.getD 0 0) (h.getD 1 0) (h.getD 2 0))
def rnd (h : List Int) (k w : Int) : List Int := [IntKind.u32.wrap (cmT1 h k w + cmT2 h), h.getD 0 0, h.getD 1 0, h.getD 2 0, IntKind.u32.wrap (h.getD 3 0 + cmT1 h k w), h.getD 4 0, h.getD 5 0, h.getD 6 0]
def rnds (h ws : List Int) : Nat → List Int
  | 0 => h
  | i + 1 => rnd (rnds h ws i) (kons.getD i 0) (ws.getD i 0)
theorem rnds_len (h ws : List Int) (hh : h.length = 8) : ∀ i, (rnds h ws i).length = 8
  | 0 => hh
  | i + 1 => rfl
def fin8 (r h : List Int) : Nat → List Int
  | 0 => r
  | i + 1 => (fin8 r h i).set i (IntKind.u32.wrap ((fin8 r h i).getD i 0 + h.getD i 0))
theorem fin8_len (r h : List Int) : ∀ i, (fin8 r h i).length = r.length
  | 0 => rfl
  | i + 1 => by rw [fin8, List.length_set, fin8_len r h i]
/-- The state behind one block. -/
def compr (h : List Int) (d : List D) : List Int := fin8 (rnds h (sch2 (sch1 d 64) 48) 64) h 8
theorem compr_len {h : List Int} (hh : h.length = 8) (d : List D) : (compr h d).length = 8 := by rw [compr, fin8_len, rnds_len _ _ hh]

set_option maxHeartbeats 4000000 in
set_option maxRecDepth 100000 in
theorem compress' (h : List Int) (d : List D) (hh : h.length = 8) (hB : BY d) (hd : d.length = 64) : SCall Tryd.prog 102 [(.arr 8 (.int .u32), il h), (.arr 64 (.int .u8), .l d)] (fun rs => rs = [.d (.arr 8 (.int .u32)) (il (compr h d))]) := by
  have hs := schedule' d hB hd
  have hsl : (sch2 (sch1 d 64) 48).length = 64 := by rw [sch2_len, sch1_len]
  unfold compr
  generalize sch2 (sch1 d 64) 48 = ws at *
  refine scall_intro (n := 112) (rl := [.cell 4 109]) (us := [109]) Tryd.hT Tryd.func102 rfl rfl rfl rfl rfl (Nat.le_of_ble_eq_true rfl) ?_
  intro w0 hL0
  simp -dsimp -implicitDefEqProofs (disch := omega) only [↓reduceIte, ↓gA, gB, refs, den, hasTy, Ty.cmp, Ty.depth, reduceCtorEq, Nat.reduceAdd, Nat.reduceSub, Nat.reduceMul, Nat.reduceEqDiff, Nat.reduceLT, Nat.reduceLeDiff, Nat.reduceMod, Nat.reduceDiv, Nat.reducePow, Nat.reduceBEq, Int.reduceToNat, Int.reduceLE, Int.reduceLT, Int.reduceEq, Int.reduceAdd, Int.reduceMul, Int.reduceSub, Int.reduceNeg, Int.reduceNe, Tryd.TS, Tryd.EV, il_zero]
  refine sdrawM Tryd.hT (by kernel_rfl) [5, 6] [1] (.alt 0 (.alt 1 (.alt 2 (.alt 3 (.alt 4 (.alt 5 (.alt 6 .nil .nil) .nil) .nil) (.alt 4 (.alt 3 (.alt 5 (.alt 6 .nil .nil) .nil) .nil) .nil)) (.alt 3 (.alt 2 (.alt 4 (.alt 5 (.alt 6 .nil .nil) .nil) .nil) (.alt 4 (.alt 2 (.alt 5 (.alt 6 .nil .nil) .nil) (.alt 5 (.alt 2 (.alt 6 .nil .nil) .nil) .nil)) .nil)) (.alt 4 (.alt 2 (.alt 3 (.alt 5 (.alt 6 .nil .nil) .nil) .nil) (.alt 3 (.alt 2 (.alt 5 (.alt 6 .nil .nil) .nil) (.alt 5 (.alt 2 (.alt 6 .nil .nil) .nil) .nil)) .nil)) .nil))) .nil) .nil) ⟨112, [(2, .v (.ptr 0 [])), (4, .v (.ptr 2 [])), (5, .v (.ptr 3 [])), (6, .v (.ptr 4 []))], [(0, ⟨.arr 8 (.int .u32), .d (.arr 8 (.int .u32)) (il h)⟩), (1, ⟨.arr 64 (.int .u8), .d (.arr 64 (.int .u8)) (.l d)⟩), (2, ⟨.arr 8 (.int .u32), .d (.arr 8 (.int .u32)) (il (List.replicate 8 0))⟩), (3, ⟨.arr 64 (.int .u32), .d (.arr 64 (.int .u32)) (il ws)⟩), (4, ⟨.arr 8 (.int .u32), .d (.arr 8 (.int .u32)) (il h)⟩)], 5⟩ (by kernel_rfl) (by kernel_rfl) ?_ ?_
  · simp only [tr_alt, tr_nil, tr_nil', gK, ↓reduceIte, Nat.reduceEqDiff]
    simp -dsimp -implicitDefEqProofs (disch := omega) only [↓reduceIte, ↓gA, gB, refs, den, hasTy, Ty.cmp, Ty.depth, reduceCtorEq, Nat.reduceAdd, Nat.reduceSub, Nat.reduceMul, Nat.reduceEqDiff, Nat.reduceLT, Nat.reduceLeDiff, Nat.reduceMod, Nat.reduceDiv, Nat.reducePow, Nat.reduceBEq, Int.reduceToNat, Int.reduceLE, Int.reduceLT, Int.reduceEq, Int.reduceAdd, Int.reduceMul, Int.reduceSub, Int.reduceNeg, Int.reduceNe, Tryd.TS, Tryd.EV, il_zero]
    repeat' (first
      | with_reducible refine And.intro ?_ ?_
      | (first | (with_reducible refine HCall_mono (hs) ?_; rintro rs rfl) | (with_reducible refine HCallF_mono (hs) (by first | rfl | simp [flatR, RV.flat, RV.isD, Ty.flat]) ?_)
         simp -dsimp -implicitDefEqProofs (disch := omega) only [↓reduceIte, ↓gA, gB, refs, den, hasTy, Ty.cmp, Ty.depth, reduceCtorEq, Nat.reduceAdd, Nat.reduceSub, Nat.reduceMul, Nat.reduceEqDiff, Nat.reduceLT, Nat.reduceLeDiff, Nat.reduceMod, Nat.reduceDiv, Nat.reducePow, Nat.reduceBEq, Int.reduceToNat, Int.reduceLE, Int.reduceLT, Int.reduceEq, Int.reduceAdd, Int.reduceMul, Int.reduceSub, Int.reduceNeg, Int.reduceNe, Tryd.TS, Tryd.EV, il_zero])
      | with_reducible exact True.intro
      | (first | (refine sub_ren w0 hL0 [(0, 0), (1, 1), (2, 2), (3, 4), (4, 5)] rfl rfl ?_ rfl ?_ ?_; (focus (simp [keysLt]; done)); (focus (simp [renTm, Go.SE.look, renTV, renSV]; done)); (focus (simp [renOb, Go.SE.look, renSV]; done))) | (refine sub_ren w0 hL0 [(0, 0), (1, 1), (2, 2), (3, 5), (4, 4)] rfl rfl ?_ rfl ?_ ?_; (focus (simp [keysLt]; done)); (focus (simp [renTm, Go.SE.look, renTV, renSV]; done)); (focus (simp [renOb, Go.SE.look, renSV]; done)))))
  simp -dsimp -implicitDefEqProofs (disch := omega) only [↓reduceIte, ↓gA, gB, refs, den, hasTy, Ty.cmp, Ty.depth, reduceCtorEq, Nat.reduceAdd, Nat.reduceSub, Nat.reduceMul, Nat.reduceEqDiff, Nat.reduceLT, Nat.reduceLeDiff, Nat.reduceMod, Nat.reduceDiv, Nat.reducePow, Nat.reduceBEq, Int.reduceToNat, Int.reduceLE, Int.reduceLT, Int.reduceEq, Int.reduceAdd, Int.reduceMul, Int.reduceSub, Int.reduceNeg, Int.reduceNe, Tryd.TS, Tryd.EV, gk]
  refine sloop Tryd.hT (α := Nat) (fun i => ⟨112, [(22, .v (.d (.int .i64) (.n i))), (21, .v (.d (.arr 64 (.int .u32)) (il kons))), (2, .v (.ptr 0 [])), (4, .v (.ptr 2 [])), (5, .v (.ptr 3 [])), (6, .v (.ptr 4 []))], [(0, ⟨.arr 8 (.int .u32), .d (.arr 8 (.int .u32)) (il h)⟩), (1, ⟨.arr 64 (.int .u8), .d (.arr 64 (.int .u8)) (.l d)⟩), (2, ⟨.arr 8 (.int .u32), .d (.arr 8 (.int .u32)) (il (List.replicate 8 0))⟩), (3, ⟨.arr 64 (.int .u32), .d (.arr 64 (.int .u32)) (il ws)⟩), (4, ⟨.arr 8 (.int .u32), .d (.arr 8 (.int .u32)) (il (rnds h ws i))⟩)], 5⟩) (fun i => i ≤ 64) (fun i => 64 - i) 0 ?_ (Nat.zero_le _) ?_
  · refine sub_ren w0 hL0 [(0, 0), (1, 1), (2, 2), (3, 3), (4, 4)] rfl rfl (by simp [keysLt]) rfl ?_ ?_
    · simp [renTm, Go.SE.look, renTV, renSV]
    · simp [renOb, Go.SE.look, renSV, rnds]
  · intro i hi
    simp -dsimp -implicitDefEqProofs (disch := omega) only [↓reduceIte, ↓gA, gB, refs, den, hasTy, Ty.cmp, Ty.depth, reduceCtorEq, Nat.reduceAdd, Nat.reduceSub, Nat.reduceMul, Nat.reduceEqDiff, Nat.reduceLT, Nat.reduceLeDiff, Nat.reduceMod, Nat.reduceDiv, Nat.reducePow, Nat.reduceBEq, Int.reduceToNat, Int.reduceLE, Int.reduceLT, Int.reduceEq, Int.reduceAdd, Int.reduceMul, Int.reduceSub, Int.reduceNeg, Int.reduceNe, Tryd.TS, Tryd.EV]
    refine HIf_dec (a := ()) (b := ()) (fun hc => ?_) (fun hc => ?_)
    · have hl := rnds_len h ws hh i
      simp -dsimp -implicitDefEqProofs (disch := omega) only [↓reduceIte, ↓gA, gB, refs, den, hasTy, Ty.cmp, Ty.depth, reduceCtorEq, Nat.reduceAdd, Nat.reduceSub, Nat.reduceMul, Nat.reduceEqDiff, Nat.reduceLT, Nat.reduceLeDiff, Nat.reduceMod, Nat.reduceDiv, Nat.reducePow, Nat.reduceBEq, Int.reduceToNat, Int.reduceLE, Int.reduceLT, Int.reduceEq, Int.reduceAdd, Int.reduceMul, Int.reduceSub, Int.reduceNeg, Int.reduceNe, Tryd.TS, Tryd.EV, il_at]
      repeat (refine And.intro (by omega) ?_)
      refine sdraw (id := 5) Tryd.hT (by kernel_rfl) [] [] [0, 1, 2, 3, 4, 5, 6, 7, 8, 9, 10, 11, 12, 13, 14, 15, 16, 17] (by kernel_rfl) (by kernel_rfl) (by kernel_rfl) ?_; simp only [gK, ↓reduceIte, Nat.reduceEqDiff]
      simp -dsimp -implicitDefEqProofs (disch := omega) only [↓reduceIte, ↓gA, gB, refs, den, hasTy, Ty.cmp, Ty.depth, reduceCtorEq, Nat.reduceAdd, Nat.reduceSub, Nat.reduceMul, Nat.reduceEqDiff, Nat.reduceLT, Nat.reduceLeDiff, Nat.reduceMod, Nat.reduceDiv, Nat.reducePow, Nat.reduceBEq, Int.reduceToNat, Int.reduceLE, Int.reduceLT, Int.reduceEq, Int.reduceAdd, Int.reduceMul, Int.reduceSub, Int.reduceNeg, Int.reduceNe, Tryd.TS, Tryd.EV, il_at]
      repeat (refine And.intro (by omega) ?_)
      refine sdraw (id := 6) Tryd.hT (by kernel_rfl) [] [] [0, 1, 2, 4, 7, 11, 12, 13, 14, 15, 16, 17, 18, 20, 22, 23, 24, 3, 5, 6, 8, 9, 10, 19, 21, 25, 26] (by kernel_rfl) (by kernel_rfl) (by kernel_rfl) ?_; simp only [gK, ↓reduceIte, Nat.reduceEqDiff]
      simp -dsimp -implicitDefEqProofs (disch := omega) only [↓reduceIte, ↓gA, gB, refs, den, hasTy, Ty.cmp, Ty.depth, reduceCtorEq, Nat.reduceAdd, Nat.reduceSub, Nat.reduceMul, Nat.reduceEqDiff, Nat.reduceLT, Nat.reduceLeDiff, Nat.reduceMod, Nat.reduceDiv, Nat.reducePow, Nat.reduceBEq, Int.reduceToNat, Int.reduceLE, Int.reduceLT, Int.reduceEq, Int.reduceAdd, Int.reduceMul, Int.reduceSub, Int.reduceNeg, Int.reduceNe, Tryd.TS, Tryd.EV, il_at]
      repeat (refine And.intro (by omega) ?_)
      first | (with_reducible refine HCall_mono (rotr' ((rnds h ws i).getD 4 0) 6 (by omega)) ?_; rintro rs rfl) | (with_reducible refine HCallF_mono (rotr' ((rnds h ws i).getD 4 0) 6 (by omega)) (by first | rfl | simp [flatR, RV.flat, RV.isD, Ty.flat]) ?_) | (refine SCall.mono (rotr' ((rnds h ws i).getD 4 0) 6 (by omega)) ?_; rintro rs rfl)
      simp -dsimp -implicitDefEqProofs (disch := omega) only [↓reduceIte, ↓gA, gB, refs, den, hasTy, Ty.cmp, Ty.depth, reduceCtorEq, Nat.reduceAdd, Nat.reduceSub, Nat.reduceMul, Nat.reduceEqDiff, Nat.reduceLT, Nat.reduceLeDiff, Nat.reduceMod, Nat.reduceDiv, Nat.reducePow, Nat.reduceBEq, Int.reduceToNat, Int.reduceLE, Int.reduceLT, Int.reduceEq, Int.reduceAdd, Int.reduceMul, Int.reduceSub, Int.reduceNeg, Int.reduceNe, Tryd.TS, Tryd.EV, il_at]
      repeat (refine And.intro (by omega) ?_)
      first | (with_reducible refine HCall_mono (rotr' ((rnds h ws i).getD 4 0) 11 (by omega)) ?_; rintro rs rfl) | (with_reducible refine HCallF_mono (rotr' ((rnds h ws i).getD 4 0) 11 (by omega)) (by first | rfl | simp [flatR, RV.flat, RV.isD, Ty.flat]) ?_) | (refine SCall.mono (rotr' ((rnds h ws i).getD 4 0) 11 (by omega)) ?_; rintro rs rfl)
      simp -dsimp -implicitDefEqProofs (disch := omega) only [↓reduceIte, ↓gA, gB, refs, den, hasTy, Ty.cmp, Ty.depth, reduceCtorEq, Nat.reduceAdd, Nat.reduceSub, Nat.reduceMul, Nat.reduceEqDiff, Nat.reduceLT, Nat.reduceLeDiff, Nat.reduceMod, Nat.reduceDiv, Nat.reducePow, Nat.reduceBEq, Int.reduceToNat, Int.reduceLE, Int.reduceLT, Int.reduceEq, Int.reduceAdd, Int.reduceMul, Int.reduceSub, Int.reduceNeg, Int.reduceNe, Tryd.TS, Tryd.EV, il_at]
      repeat (refine And.intro (by omega) ?_)
      first | (with_reducible refine HCall_mono (rotr' ((rnds h ws i).getD 4 0) 25 (by omega)) ?_; rintro rs rfl) | (with_reducible refine HCallF_mono (rotr' ((rnds h ws i).getD 4 0) 25 (by omega)) (by first | rfl | simp [flatR, RV.flat, RV.isD, Ty.flat]) ?_) | (refine SCall.mono (rotr' ((rnds h ws i).getD 4 0) 25 (by omega)) ?_; rintro rs rfl)
      simp -dsimp -implicitDefEqProofs (disch := omega) only [↓reduceIte, ↓gA, gB, refs, den, hasTy, Ty.cmp, Ty.depth, reduceCtorEq, Nat.reduceAdd, Nat.reduceSub, Nat.reduceMul, Nat.reduceEqDiff, Nat.reduceLT, Nat.reduceLeDiff, Nat.reduceMod, Nat.reduceDiv, Nat.reducePow, Nat.reduceBEq, Int.reduceToNat, Int.reduceLE, Int.reduceLT, Int.reduceEq, Int.reduceAdd, Int.reduceMul, Int.reduceSub, Int.reduceNeg, Int.reduceNe, Tryd.TS, Tryd.EV, il_at]
      repeat (refine And.intro (by omega) ?_)
      first | (with_reducible refine HCall_mono (rotr' ((rnds h ws i).getD 0 0) 2 (by omega)) ?_; rintro rs rfl) | (with_reducible refine HCallF_mono (rotr' ((rnds h ws i).getD 0 0) 2 (by omega)) (by first | rfl | simp [flatR, RV.flat, RV.isD, Ty.flat]) ?_) | (refine SCall.mono (rotr' ((rnds h ws i).getD 0 0) 2 (by omega)) ?_; rintro rs rfl)
      simp -dsimp -implicitDefEqProofs (disch := omega) only [↓reduceIte, ↓gA, gB, refs, den, hasTy, Ty.cmp, Ty.depth, reduceCtorEq, Nat.reduceAdd, Nat.reduceSub, Nat.reduceMul, Nat.reduceEqDiff, Nat.reduceLT, Nat.reduceLeDiff, Nat.reduceMod, Nat.reduceDiv, Nat.reducePow, Nat.reduceBEq, Int.reduceToNat, Int.reduceLE, Int.reduceLT, Int.reduceEq, Int.reduceAdd, Int.reduceMul, Int.reduceSub, Int.reduceNeg, Int.reduceNe, Tryd.TS, Tryd.EV, il_at]
      repeat (refine And.intro (by omega) ?_)
      first | (with_reducible refine HCall_mono (rotr' ((rnds h ws i).getD 0 0) 13 (by omega)) ?_; rintro rs rfl) | (with_reducible refine HCallF_mono (rotr' ((rnds h ws i).getD 0 0) 13 (by omega)) (by first | rfl | simp [flatR, RV.flat, RV.isD, Ty.flat]) ?_) | (refine SCall.mono (rotr' ((rnds h ws i).getD 0 0) 13 (by omega)) ?_; rintro rs rfl)
      simp -dsimp -implicitDefEqProofs (disch := omega) only [↓reduceIte, ↓gA, gB, refs, den, hasTy, Ty.cmp, Ty.depth, reduceCtorEq, Nat.reduceAdd, Nat.reduceSub, Nat.reduceMul, Nat.reduceEqDiff, Nat.reduceLT, Nat.reduceLeDiff, Nat.reduceMod, Nat.reduceDiv, Nat.reducePow, Nat.reduceBEq, Int.reduceToNat, Int.reduceLE, Int.reduceLT, Int.reduceEq, Int.reduceAdd, Int.reduceMul, Int.reduceSub, Int.reduceNeg, Int.reduceNe, Tryd.TS, Tryd.EV, il_at]
      repeat (refine And.intro (by omega) ?_)
      first | (with_reducible refine HCall_mono (rotr' ((rnds h ws i).getD 0 0) 22 (by omega)) ?_; rintro rs rfl) | (with_reducible refine HCallF_mono (rotr' ((rnds h ws i).getD 0 0) 22 (by omega)) (by first | rfl | simp [flatR, RV.flat, RV.isD, Ty.flat]) ?_) | (refine SCall.mono (rotr' ((rnds h ws i).getD 0 0) 22 (by omega)) ?_; rintro rs rfl)
      simp -dsimp -implicitDefEqProofs (disch := omega) only [↓reduceIte, ↓gA, gB, refs, den, hasTy, Ty.cmp, Ty.depth, reduceCtorEq, Nat.reduceAdd, Nat.reduceSub, Nat.reduceMul, Nat.reduceEqDiff, Nat.reduceLT, Nat.reduceLeDiff, Nat.reduceMod, Nat.reduceDiv, Nat.reducePow, Nat.reduceBEq, Int.reduceToNat, Int.reduceLE, Int.reduceLT, Int.reduceEq, Int.reduceAdd, Int.reduceMul, Int.reduceSub, Int.reduceNeg, Int.reduceNe, Tryd.TS, Tryd.EV, il_at]
      repeat (refine And.intro (by omega) ?_)
      refine ⟨i + 1, by omega, by omega, ?_⟩
      refine sub_ren w0 hL0 [(0, 0), (1, 1), (2, 2), (3, 3), (4, 4)] rfl rfl (by simp [keysLt]) rfl ?_ ?_
      · simp [renTm, Go.SE.look, renTV, renSV]
      · simp [renOb, Go.SE.look, renSV, rnds, rnd, cmT1, cmT2, cmS0, cmS1, cmCh, cmMj, il]
    · simp -dsimp -implicitDefEqProofs (disch := omega) only [↓reduceIte, ↓gA, gB, refs, den, hasTy, Ty.cmp, Ty.depth, reduceCtorEq, Nat.reduceAdd, Nat.reduceSub, Nat.reduceMul, Nat.reduceEqDiff, Nat.reduceLT, Nat.reduceLeDiff, Nat.reduceMod, Nat.reduceDiv, Nat.reducePow, Nat.reduceBEq, Int.reduceToNat, Int.reduceLE, Int.reduceLT, Int.reduceEq, Int.reduceAdd, Int.reduceMul, Int.reduceSub, Int.reduceNeg, Int.reduceNe, Tryd.TS, Tryd.EV]
      have e : i = 64 := by omega
      subst e
      have hl := rnds_len h ws hh 64
      generalize rnds h ws 64 = r at *
      refine sloop Tryd.hT (α := Nat) (fun i => ⟨112, [(99, .v (.d (.int .i64) (.n i))), (2, .v (.ptr 0 [])), (4, .v (.ptr 2 [])), (5, .v (.ptr 3 [])), (6, .v (.ptr 4 []))], [(0, ⟨.arr 8 (.int .u32), .d (.arr 8 (.int .u32)) (il h)⟩), (1, ⟨.arr 64 (.int .u8), .d (.arr 64 (.int .u8)) (.l d)⟩), (2, ⟨.arr 8 (.int .u32), .d (.arr 8 (.int .u32)) (il (List.replicate 8 0))⟩), (3, ⟨.arr 64 (.int .u32), .d (.arr 64 (.int .u32)) (il ws)⟩), (4, ⟨.arr 8 (.int .u32), .d (.arr 8 (.int .u32)) (il (fin8 r h i))⟩)], 5⟩) (fun i => i ≤ 8) (fun i => 8 - i) 0 ?_ (Nat.zero_le _) ?_
      · refine sub_ren w0 hL0 [(0, 0), (1, 1), (2, 2), (3, 3), (4, 4)] rfl rfl (by simp [keysLt]) rfl ?_ ?_
        · simp [renTm, Go.SE.look, renTV, renSV]
        · simp [renOb, Go.SE.look, renSV, fin8]
      · intro i hi
        simp -dsimp -implicitDefEqProofs (disch := omega) only [↓reduceIte, ↓gA, gB, refs, den, hasTy, Ty.cmp, Ty.depth, reduceCtorEq, Nat.reduceAdd, Nat.reduceSub, Nat.reduceMul, Nat.reduceEqDiff, Nat.reduceLT, Nat.reduceLeDiff, Nat.reduceMod, Nat.reduceDiv, Nat.reducePow, Nat.reduceBEq, Int.reduceToNat, Int.reduceLE, Int.reduceLT, Int.reduceEq, Int.reduceAdd, Int.reduceMul, Int.reduceSub, Int.reduceNeg, Int.reduceNe, Tryd.TS, Tryd.EV]
        refine HIf_dec (a := ()) (b := ()) (fun hc2 => ?_) (fun hc2 => ?_)
        · have hl2 := fin8_len r h i
          simp -dsimp -implicitDefEqProofs (disch := omega) only [↓reduceIte, ↓gA, gB, refs, den, hasTy, Ty.cmp, Ty.depth, reduceCtorEq, Nat.reduceAdd, Nat.reduceSub, Nat.reduceMul, Nat.reduceEqDiff, Nat.reduceLT, Nat.reduceLeDiff, Nat.reduceMod, Nat.reduceDiv, Nat.reducePow, Nat.reduceBEq, Int.reduceToNat, Int.reduceLE, Int.reduceLT, Int.reduceEq, Int.reduceAdd, Int.reduceMul, Int.reduceSub, Int.reduceNeg, Int.reduceNe, Tryd.TS, Tryd.EV, il_at]
          repeat (refine And.intro (by omega) ?_)
          refine sdraw (id := 13) Tryd.hT (by kernel_rfl) [8] [] [0, 1, 2, 3, 4, 5, 6, 7, 8] (by kernel_rfl) (by kernel_rfl) (by kernel_rfl) ?_; simp only [gK, ↓reduceIte, Nat.reduceEqDiff]
          simp -dsimp -implicitDefEqProofs (disch := omega) only [↓reduceIte, ↓gA, gB, refs, den, hasTy, Ty.cmp, Ty.depth, reduceCtorEq, Nat.reduceAdd, Nat.reduceSub, Nat.reduceMul, Nat.reduceEqDiff, Nat.reduceLT, Nat.reduceLeDiff, Nat.reduceMod, Nat.reduceDiv, Nat.reducePow, Nat.reduceBEq, Int.reduceToNat, Int.reduceLE, Int.reduceLT, Int.reduceEq, Int.reduceAdd, Int.reduceMul, Int.reduceSub, Int.reduceNeg, Int.reduceNe, Tryd.TS, Tryd.EV, il_at, il_set]
          repeat (refine And.intro (by omega) ?_)
          refine ⟨i + 1, by omega, by omega, ?_⟩
          refine sub_ren w0 hL0 [(0, 0), (1, 1), (2, 2), (3, 3), (4, 4)] rfl rfl (by simp [keysLt]) rfl ?_ ?_
          · simp [renTm, Go.SE.look, renTV, renSV]
          · simp [renOb, Go.SE.look, renSV, fin8]
        · simp -dsimp -implicitDefEqProofs (disch := omega) only [↓reduceIte, ↓gA, gB, refs, den, hasTy, Ty.cmp, Ty.depth, reduceCtorEq, Nat.reduceAdd, Nat.reduceSub, Nat.reduceMul, Nat.reduceEqDiff, Nat.reduceLT, Nat.reduceLeDiff, Nat.reduceMod, Nat.reduceDiv, Nat.reducePow, Nat.reduceBEq, Int.reduceToNat, Int.reduceLE, Int.reduceLT, Int.reduceEq, Int.reduceAdd, Int.reduceMul, Int.reduceSub, Int.reduceNeg, Int.reduceNe, Tryd.TS, Tryd.EV]
          have e : i = 8 := by omega
          subst e
          rfl
end Go.Proofs
/- The digest: padding. -/
namespace Go.Proofs
open Go.SE

def zer (n : Nat) : Nat := (64 - (n + 9) % 64) % 64
def padb (n : Nat) : Nat → List D
  | 0 => .n 128 :: List.replicate (zer n) (.n 0)
  | i + 1 => padb n i ++ [.n ((8 * n / 2 ^ (56 - 8 * i) % 256 : Nat) : Int)]
theorem padb_len (n : Nat) : ∀ i, (padb n i).length = 1 + zer n + i
  | 0 => by simp [padb]; omega
  | i + 1 => by rw [padb, List.length_append, padb_len n i]; simp; omega
theorem padb_by (n : Nat) : ∀ i, BY (padb n i)
  | 0 => by
    intro x hx
    rw [padb] at hx
    rcases List.mem_cons.1 hx with rfl | hx
    · exact ⟨128, rfl, by omega⟩
    · exact ⟨0, List.eq_of_mem_replicate hx, by omega⟩
  | i + 1 => by
    rw [padb]
    exact (padb_by n i).append (.cons (Nat.mod_lt _ (by omega)) .nil)
theorem padb_all (n : Nat) : (n + (padb n 8).length) % 64 = 0 := by
  rw [padb_len, zer]; omega
theorem tm64N {a : Nat} : (a : Int).tmod 64 = ((a % 64 : Nat) : Int) := rfl
theorem pd9 (n : Nat) : (n : Int) + 9 = ((n + 9 : Nat) : Int) := by omega
theorem pd64 (n : Nat) : (64 : Int) - ((n % 64 : Nat) : Int) = ((64 - n % 64 : Nat) : Int) := by omega
theorem pd1 (n : Nat) : (1 : Int) + (n : Int) = ((1 + n : Nat) : Int) := by omega
theorem pd8 (n : Nat) : (8 : Int) * (n : Int) = ((8 * n : Nat) : Int) := by omega
theorem pdByte (n i : Nat) (hi : i < 8) : IntKind.u8.wrap (((n : Nat) : Int).fdiv (2 ^ min (56 - 8 * (i : Int)).toNat IntKind.u64.bits)) = ((n / 2 ^ (56 - 8 * i) % 256 : Nat) : Int) := by
  have h1 : min (56 - 8 * (i : Int)).toNat IntKind.u64.bits = 56 - 8 * i := by show min (56 - 8 * (i : Int)).toNat 64 = _; omega
  rw [h1, show ((2 : Int) ^ (56 - 8 * i)) = ((2 ^ (56 - 8 * i) : Nat) : Int) from (Int.natCast_pow 2 _).symm, Int.fdiv_eq_ediv_of_nonneg _ (Int.natCast_nonneg _), IntKind.wrap_u8]
  omega

set_option maxHeartbeats 4000000 in
theorem pad' (n : Nat) (hn : n ≤ 281474976710656) : SCall Tryd.prog 101 [(.int .u64, .n n)] (fun rs => rs = [.own (.int .u8) (padb n 8)]) := by
  refine scall_intro (n := 27) (rl := [.tmp 2]) (us := [27]) Tryd.hT Tryd.func101 rfl rfl rfl rfl rfl (Nat.le_of_ble_eq_true rfl) ?_
  intro w0 hL0
  have hz : zer n = (64 - (n + 9) % 64) % 64 := rfl
  simp -dsimp -implicitDefEqProofs (disch := omega) only [↓reduceIte, ↓gA, gB, refs, den, hasTy, Ty.cmp, Ty.depth, reduceCtorEq, Nat.reduceAdd, Nat.reduceSub, Nat.reduceMul, Nat.reduceEqDiff, Nat.reduceLT, Nat.reduceLeDiff, Nat.reduceMod, Nat.reduceDiv, Nat.reducePow, Nat.reduceBEq, Int.reduceToNat, Int.reduceLE, Int.reduceLT, Int.reduceEq, Int.reduceAdd, Int.reduceMul, Int.reduceSub, Int.reduceNeg, Int.reduceNe, Tryd.TS, Tryd.EV, pd9, tm64N, pd64, pd1]
  repeat (refine And.intro (by omega) ?_)
  rw [← hz]
  have h0 : (List.replicate (1 + zer n) (D.n 0)).set 0 (.n 128) = padb n 0 := by rw [Nat.add_comm, List.replicate_succ]; rfl
  have hL := padb_len n
  generalize zer n = z at *
  rw [h0]
  refine sloop Tryd.hT (α := Nat) (fun i => ⟨27, [(4, .v (.d (.int .i64) (.n (56 - 8 * (i : Int))))), (3, .v (.ref 0 [] 0 (padb n i).length)), (0, .v (.d (.int .u64) (.n n)))], [(0, ⟨.arr (padb n i).length (.int .u8), .d (.arr (padb n i).length (.int .u8)) (.l (padb n i))⟩)], 1⟩) (fun i => i ≤ 8) (fun i => 8 - i) 0 ?_ (Nat.zero_le _) ?_
  · refine sub_ren w0 hL0 [(0, 0)] rfl rfl (by simp [keysLt]) rfl ?_ ?_
    · simp [renTm, Go.SE.look, renTV, renSV, hL]
    · simp [renOb, Go.SE.look, renSV, hL]
  · intro i hi
    have hLi := hL i
    simp -dsimp -implicitDefEqProofs (disch := omega) only [↓reduceIte, ↓gA, gB, refs, den, hasTy, Ty.cmp, Ty.depth, reduceCtorEq, Nat.reduceAdd, Nat.reduceSub, Nat.reduceMul, Nat.reduceEqDiff, Nat.reduceLT, Nat.reduceLeDiff, Nat.reduceMod, Nat.reduceDiv, Nat.reducePow, Nat.reduceBEq, Int.reduceToNat, Int.reduceLE, Int.reduceLT, Int.reduceEq, Int.reduceAdd, Int.reduceMul, Int.reduceSub, Int.reduceNeg, Int.reduceNe, Tryd.TS, Tryd.EV]
    refine HIf_dec (a := ()) (b := ()) (fun h => ?_) (fun h => ?_)
    · have hb := pdByte (8 * n) i (by omega)
      rw [← pd8] at hb
      simp -dsimp -implicitDefEqProofs (disch := omega) only [↓reduceIte, ↓gA, gB, refs, den, hasTy, Ty.cmp, Ty.depth, reduceCtorEq, Nat.reduceAdd, Nat.reduceSub, Nat.reduceMul, Nat.reduceEqDiff, Nat.reduceLT, Nat.reduceLeDiff, Nat.reduceMod, Nat.reduceDiv, Nat.reducePow, Nat.reduceBEq, Int.reduceToNat, Int.reduceLE, Int.reduceLT, Int.reduceEq, Int.reduceAdd, Int.reduceMul, Int.reduceSub, Int.reduceNeg, Int.reduceNe, Tryd.TS, Tryd.EV, hb]
      repeat (refine And.intro (by omega) ?_)
      refine ⟨i + 1, by omega, by omega, ?_⟩
      refine sub_ren w0 hL0 [(0, 2)] rfl rfl (by simp [keysLt]) rfl ?_ ?_
      · simp [renTm, Go.SE.look, renTV, renSV, hL]
        omega
      · simp only [padb, List.length_append, List.length_singleton]
        simp only [← hb]
        simp [renOb, Go.SE.look, renSV]
    · simp -dsimp -implicitDefEqProofs (disch := omega) only [↓reduceIte, ↓gA, gB, refs, den, hasTy, Ty.cmp, Ty.depth, reduceCtorEq, Nat.reduceAdd, Nat.reduceSub, Nat.reduceMul, Nat.reduceEqDiff, Nat.reduceLT, Nat.reduceLeDiff, Nat.reduceMod, Nat.reduceDiv, Nat.reducePow, Nat.reduceBEq, Int.reduceToNat, Int.reduceLE, Int.reduceLT, Int.reduceEq, Int.reduceAdd, Int.reduceMul, Int.reduceSub, Int.reduceNeg, Int.reduceNe, Tryd.TS, Tryd.EV]
      have e : i = 8 := by omega
      subst e
      rfl
end Go.Proofs
/- The digest of bytes. -/
namespace Go.Proofs
open Go.SE

/-- The state behind i blocks. -/
def shaN (m : List D) : Nat → List Int
  | 0 => inits
  | i + 1 => compr (shaN m i) ((m.drop (64 * i)).take 64)
theorem shaN_len (m : List D) : ∀ i, (shaN m i).length = 8
  | 0 => inits_len
  | i + 1 => compr_len (shaN_len m i) _
def shaB (h : List Int) (i : Nat) : D := .n (IntKind.u8.wrap ((h.getD (i / 4) 0).fdiv (2 ^ min (24 - 8 * ((i % 4 : Nat) : Int)).toNat IntKind.u32.bits)))
/-- The digest. -/
def sha (b : List D) : List D := (List.range 32).map (shaB (shaN (b ++ padb b.length 8) ((b ++ padb b.length 8).length / 64)))
theorem sha_len (b : List D) : (sha b).length = 32 := by simp [sha]
theorem sha_by (b : List D) : BY (sha b) := by
  intro x hx
  obtain ⟨i, _, rfl⟩ := List.mem_map.1 hx
  refine ⟨(IntKind.u8.wrap ((shaN (b ++ padb b.length 8) ((b ++ padb b.length 8).length / 64)).getD (i / 4) 0 |>.fdiv (2 ^ min (24 - 8 * ((i % 4 : Nat) : Int)).toNat IntKind.u32.bits))).toNat, ?_, ?_⟩
  · unfold shaB
    rw [Int.toNat_of_nonneg]
    rw [IntKind.wrap_u8]; omega
  · rw [IntKind.wrap_u8]; omega
theorem BY.sub {b : List D} (h : BY b) (i j : Nat) : BY ((b.drop i).take j) := fun x hx => h x (List.mem_of_mem_drop (List.mem_of_mem_take hx))
theorem tm4 {a : Nat} : (a : Int).tmod 4 = ((a % 4 : Nat) : Int) := rfl

set_option maxHeartbeats 4000000 in
theorem sum' (b : List D) (hB : BY b) (hb : b.length ≤ 70368744177664) : SCall Tryd.prog 74 [(.sl (.int .u8), .l b)] (fun rs => rs = [.d (.arr 32 (.int .u8)) (.l (sha b))]) := by
  have hp := pad' b.length (by omega)
  have hP := padb_by b.length 8
  have hpl := padb_len b.length 8
  have hz : zer b.length < 64 := Nat.mod_lt _ (by omega)
  have hall := padb_all b.length
  have hM : BY (b ++ padb b.length 8) := hB.append hP
  have hl : (b ++ padb b.length 8).length = b.length + (padb b.length 8).length := List.length_append
  refine scall_intro (n := 47) (rl := [.cell 2 33]) (us := [33]) Tryd.hT Tryd.func74 rfl rfl rfl rfl rfl (Nat.le_of_ble_eq_true rfl) ?_
  intro w0 hL0
  simp -dsimp -implicitDefEqProofs (disch := omega) only [↓reduceIte, ↓gA, gB, refs, den, hasTy, Ty.cmp, Ty.depth, reduceCtorEq, Nat.reduceAdd, Nat.reduceSub, Nat.reduceMul, Nat.reduceEqDiff, Nat.reduceLT, Nat.reduceLeDiff, Nat.reduceMod, Nat.reduceDiv, Nat.reducePow, Nat.reduceBEq, Int.reduceToNat, Int.reduceLE, Int.reduceLT, Int.reduceEq, Int.reduceAdd, Int.reduceMul, Int.reduceSub, Int.reduceNeg, Int.reduceNe, Tryd.TS, Tryd.EV]
  repeat (refine And.intro (by omega) ?_)
  first | (with_reducible refine HCall_mono (hp) ?_; rintro rs rfl) | (with_reducible refine HCallF_mono (hp) (by first | rfl | simp [flatR, RV.flat, RV.isD, Ty.flat]) ?_) | (refine SCall.mono (hp) ?_; rintro rs rfl)
  simp -dsimp -implicitDefEqProofs (disch := omega) only [↓reduceIte, ↓gA, gB, refs, den, hasTy, Ty.cmp, Ty.depth, reduceCtorEq, Nat.reduceAdd, Nat.reduceSub, Nat.reduceMul, Nat.reduceEqDiff, Nat.reduceLT, Nat.reduceLeDiff, Nat.reduceMod, Nat.reduceDiv, Nat.reducePow, Nat.reduceBEq, Int.reduceToNat, Int.reduceLE, Int.reduceLT, Int.reduceEq, Int.reduceAdd, Int.reduceMul, Int.reduceSub, Int.reduceNeg, Int.reduceNe, Tryd.TS, Tryd.EV, gi]
  repeat (refine And.intro (by omega) ?_)
  obtain ⟨m, hm⟩ : ∃ m, m = b ++ padb b.length 8 := ⟨_, rfl⟩
  have hsha : sha b = (List.range 32).map (shaB (shaN m (m.length / 64))) := by rw [hm]; rfl
  rw [hsha, ← hm]
  rw [← hm] at hM hl
  obtain ⟨k, hk⟩ : ∃ k, m.length = 64 * k := ⟨m.length / 64, by omega⟩
  have hk2 : m.length / 64 = k := by omega
  clear hm hsha hp hP hall
  rw [hk2]
  refine sloop Tryd.hT (α := Nat) (fun i => ⟨47, [(4, .v (.ptr 2 [])), (3, .v (.ref 1 [] (64 * i) (m.length - 64 * i))), (2, .v (.ptr 0 []))], [(0, ⟨.arr 32 (.int .u8), .d (.arr 32 (.int .u8)) (.l (List.replicate 32 (.n 0)))⟩), (1, ⟨.arr m.length (.int .u8), .d (.arr m.length (.int .u8)) (.l m)⟩), (2, ⟨.arr 8 (.int .u32), .d (.arr 8 (.int .u32)) (il (shaN m i))⟩)], 3⟩) (fun i => i ≤ k) (fun i => k - i) 0 ?_ (Nat.zero_le _) ?_
  · refine sub_ren w0 hL0 [(0, 0), (1, 4), (2, 5)] rfl rfl (by simp [keysLt]) rfl ?_ ?_
    · simp [renTm, Go.SE.look, renTV, renSV]
    · simp [renOb, Go.SE.look, renSV, shaN]
  · intro i hi
    simp -dsimp -implicitDefEqProofs (disch := omega) only [↓reduceIte, ↓gA, gB, refs, den, hasTy, Ty.cmp, Ty.depth, reduceCtorEq, Nat.reduceAdd, Nat.reduceSub, Nat.reduceMul, Nat.reduceEqDiff, Nat.reduceLT, Nat.reduceLeDiff, Nat.reduceMod, Nat.reduceDiv, Nat.reducePow, Nat.reduceBEq, Int.reduceToNat, Int.reduceLE, Int.reduceLT, Int.reduceEq, Int.reduceAdd, Int.reduceMul, Int.reduceSub, Int.reduceNeg, Int.reduceNe, Tryd.TS, Tryd.EV]
    refine HIf_dec (a := ()) (b := ()) (fun h => ?_) (fun h => ?_)
    · have hc := compress' (shaN m i) ((m.drop (64 * i)).take 64) (shaN_len m i) (hM.sub _ _) (by rw [List.length_take, List.length_drop]; omega)
      simp -dsimp -implicitDefEqProofs (disch := omega) only [↓reduceIte, ↓gA, gB, refs, den, hasTy, Ty.cmp, Ty.depth, reduceCtorEq, Nat.reduceAdd, Nat.reduceSub, Nat.reduceMul, Nat.reduceEqDiff, Nat.reduceLT, Nat.reduceLeDiff, Nat.reduceMod, Nat.reduceDiv, Nat.reducePow, Nat.reduceBEq, Int.reduceToNat, Int.reduceLE, Int.reduceLT, Int.reduceEq, Int.reduceAdd, Int.reduceMul, Int.reduceSub, Int.reduceNeg, Int.reduceNe, Tryd.TS, Tryd.EV]
      refine sdraw (id := 4) Tryd.hT (by kernel_rfl) [6] [] [0, 1, 2, 3, 4, 5, 6] (by kernel_rfl) (by kernel_rfl) (by kernel_rfl) ?_; simp only [gK, ↓reduceIte, Nat.reduceEqDiff]
      simp -dsimp -implicitDefEqProofs (disch := omega) only [↓reduceIte, ↓gA, gB, refs, den, hasTy, Ty.cmp, Ty.depth, reduceCtorEq, Nat.reduceAdd, Nat.reduceSub, Nat.reduceMul, Nat.reduceEqDiff, Nat.reduceLT, Nat.reduceLeDiff, Nat.reduceMod, Nat.reduceDiv, Nat.reducePow, Nat.reduceBEq, Int.reduceToNat, Int.reduceLE, Int.reduceLT, Int.reduceEq, Int.reduceAdd, Int.reduceMul, Int.reduceSub, Int.reduceNeg, Int.reduceNe, Tryd.TS, Tryd.EV]
      repeat (refine And.intro (by omega) ?_)
      first | (with_reducible refine HCall_mono (hc) ?_; rintro rs rfl) | (with_reducible refine HCallF_mono (hc) (by first | rfl | simp [flatR, RV.flat, RV.isD, Ty.flat]) ?_) | (refine SCall.mono (hc) ?_; rintro rs rfl)
      simp -dsimp -implicitDefEqProofs (disch := omega) only [↓reduceIte, ↓gA, gB, refs, den, hasTy, Ty.cmp, Ty.depth, reduceCtorEq, Nat.reduceAdd, Nat.reduceSub, Nat.reduceMul, Nat.reduceEqDiff, Nat.reduceLT, Nat.reduceLeDiff, Nat.reduceMod, Nat.reduceDiv, Nat.reducePow, Nat.reduceBEq, Int.reduceToNat, Int.reduceLE, Int.reduceLT, Int.reduceEq, Int.reduceAdd, Int.reduceMul, Int.reduceSub, Int.reduceNeg, Int.reduceNe, Tryd.TS, Tryd.EV]
      repeat (refine And.intro (by omega) ?_)
      refine ⟨i + 1, by omega, by omega, ?_⟩
      refine sub_ren w0 hL0 [(0, 0), (1, 1), (2, 2)] rfl rfl (by simp [keysLt]) rfl ?_ ?_
      · simp [renTm, Go.SE.look, renTV, renSV]
        omega
      · simp [renOb, Go.SE.look, renSV, shaN]
    · simp -dsimp -implicitDefEqProofs (disch := omega) only [↓reduceIte, ↓gA, gB, refs, den, hasTy, Ty.cmp, Ty.depth, reduceCtorEq, Nat.reduceAdd, Nat.reduceSub, Nat.reduceMul, Nat.reduceEqDiff, Nat.reduceLT, Nat.reduceLeDiff, Nat.reduceMod, Nat.reduceDiv, Nat.reducePow, Nat.reduceBEq, Int.reduceToNat, Int.reduceLE, Int.reduceLT, Int.reduceEq, Int.reduceAdd, Int.reduceMul, Int.reduceSub, Int.reduceNeg, Int.reduceNe, Tryd.TS, Tryd.EV]
      have e : i = k := by omega
      subst e
      have hH := shaN_len m i
      generalize shaN m i = H at *
      refine sloop Tryd.hT (α := Nat) (fun j => ⟨47, [(30, .v (.d (.int .i64) (.n j))), (4, .v (.ptr 1 [])), (2, .v (.ptr 0 [])), (5, .v (.ptr 2 []))], [(0, ⟨.arr 32 (.int .u8), .d (.arr 32 (.int .u8)) (.l (List.replicate 32 (.n 0)))⟩), (1, ⟨.arr 8 (.int .u32), .d (.arr 8 (.int .u32)) (il H)⟩), (2, ⟨.arr 32 (.int .u8), .d (.arr 32 (.int .u8)) (.l ((List.range j).map (shaB H) ++ List.replicate (32 - j) (.n 0)))⟩)], 3⟩) (fun j => j ≤ 32) (fun j => 32 - j) 0 ?_ (Nat.zero_le _) ?_
      · refine sub_ren w0 hL0 [(0, 0), (1, 2), (2, 3)] rfl rfl (by simp [keysLt]) rfl ?_ ?_
        · simp [renTm, Go.SE.look, renTV, renSV]
        · simp [renOb, Go.SE.look, renSV]
      · intro j hj
        simp -dsimp -implicitDefEqProofs (disch := omega) only [↓reduceIte, ↓gA, gB, refs, den, hasTy, Ty.cmp, Ty.depth, reduceCtorEq, Nat.reduceAdd, Nat.reduceSub, Nat.reduceMul, Nat.reduceEqDiff, Nat.reduceLT, Nat.reduceLeDiff, Nat.reduceMod, Nat.reduceDiv, Nat.reducePow, Nat.reduceBEq, Int.reduceToNat, Int.reduceLE, Int.reduceLT, Int.reduceEq, Int.reduceAdd, Int.reduceMul, Int.reduceSub, Int.reduceNeg, Int.reduceNe, Tryd.TS, Tryd.EV]
        refine HIf_dec (a := ()) (b := ()) (fun h2 => ?_) (fun h2 => ?_)
        · simp -dsimp -implicitDefEqProofs (disch := omega) only [↓reduceIte, ↓gA, gB, refs, den, hasTy, Ty.cmp, Ty.depth, reduceCtorEq, Nat.reduceAdd, Nat.reduceSub, Nat.reduceMul, Nat.reduceEqDiff, Nat.reduceLT, Nat.reduceLeDiff, Nat.reduceMod, Nat.reduceDiv, Nat.reducePow, Nat.reduceBEq, Int.reduceToNat, Int.reduceLE, Int.reduceLT, Int.reduceEq, Int.reduceAdd, Int.reduceMul, Int.reduceSub, Int.reduceNeg, Int.reduceNe, Tryd.TS, Tryd.EV, td4, tm4, il_at]
          repeat (refine And.intro (by omega) ?_)
          refine ⟨j + 1, by omega, by omega, ?_⟩
          refine sub_ren w0 hL0 [(0, 0), (1, 1), (2, 2)] rfl rfl (by simp [keysLt]) rfl ?_ ?_
          · simp [renTm, Go.SE.look, renTV, renSV]
          · have e : 32 - j = (32 - (j + 1)) + 1 := by omega
            rw [e, List.replicate_succ]
            simp [renOb, Go.SE.look, renSV, List.range_succ, shaB, List.replicate_succ]
        · simp -dsimp -implicitDefEqProofs (disch := omega) only [↓reduceIte, ↓gA, gB, refs, den, hasTy, Ty.cmp, Ty.depth, reduceCtorEq, Nat.reduceAdd, Nat.reduceSub, Nat.reduceMul, Nat.reduceEqDiff, Nat.reduceLT, Nat.reduceLeDiff, Nat.reduceMod, Nat.reduceDiv, Nat.reducePow, Nat.reduceBEq, Int.reduceToNat, Int.reduceLE, Int.reduceLT, Int.reduceEq, Int.reduceAdd, Int.reduceMul, Int.reduceSub, Int.reduceNeg, Int.reduceNe, Tryd.TS, Tryd.EV]
          have e : j = 32 := by omega
          subst e
          simp
end Go.Proofs
/- The digest with a tag. -/
namespace Go.Proofs
open Go.SE

def shaT (t b : List D) : List D := sha (sha t ++ sha t ++ b)

theorem bytesD_len (t : ByteArray) : (bytesD t).length = t.size := by
  unfold bytesD
  rw [List.length_map, Array.length_toList]
  rfl
theorem bytesD_by (t : ByteArray) : BY (bytesD t) := by
  intro x hx
  obtain ⟨y, _, rfl⟩ := List.mem_map.1 hx
  exact ⟨y.toNat, rfl, UInt8.toNat_lt _⟩

set_option maxHeartbeats 4000000 in
theorem tagged' (t : ByteArray) (b : List D) (hB : BY b) (hb : b.length ≤ 35184372088832) (ht : t.size ≤ 35184372088832) : SCall Tryd.prog 37 [(.str, .s t), (.sl (.int .u8), .l b)] (fun rs => rs = [.d (.arr 32 (.int .u8)) (.l (shaT (bytesD t) b))]) := by
  have hl1 := bytesD_len t
  have htB := bytesD_by t
  have htk : List.take t.size (bytesD t) = bytesD t := List.take_of_length_le (by omega)
  have c1 := sum' (bytesD t) htB (by omega)
  have hS := sha_by (bytesD t)
  have hSl := sha_len (bytesD t)
  have c2 := sum' (sha (bytesD t) ++ sha (bytesD t) ++ b) ((hS.append hS).append hB) (by simp only [List.length_append]; omega)
  unfold shaT
  generalize sha (bytesD t) = s at *
  refine scall_intro (n := 15) (rl := [.cell 4 33]) (us := [33]) Tryd.hT Tryd.func37 rfl rfl rfl rfl rfl (Nat.le_of_ble_eq_true rfl) ?_
  intro w0 hL0
  simp -dsimp -implicitDefEqProofs (disch := omega) only [↓reduceIte, ↓gA, gB, refs, den, hasTy, Ty.cmp, Ty.depth, reduceCtorEq, Nat.reduceAdd, Nat.reduceSub, Nat.reduceMul, Nat.reduceEqDiff, Nat.reduceLT, Nat.reduceLeDiff, Nat.reduceMod, Nat.reduceDiv, Nat.reducePow, Nat.reduceBEq, Int.reduceToNat, Int.reduceLE, Int.reduceLT, Int.reduceEq, Int.reduceAdd, Int.reduceMul, Int.reduceSub, Int.reduceNeg, Int.reduceNe, Tryd.TS, Tryd.EV, htk]
  first | (with_reducible refine HCall_mono (c1) ?_; rintro rs rfl) | (with_reducible refine HCallF_mono (c1) (by first | rfl | simp [flatR, RV.flat, RV.isD, Ty.flat]) ?_) | (refine SCall.mono (c1) ?_; rintro rs rfl)
  simp -dsimp -implicitDefEqProofs (disch := omega) only [↓reduceIte, ↓gA, gB, refs, den, hasTy, Ty.cmp, Ty.depth, reduceCtorEq, Nat.reduceAdd, Nat.reduceSub, Nat.reduceMul, Nat.reduceEqDiff, Nat.reduceLT, Nat.reduceLeDiff, Nat.reduceMod, Nat.reduceDiv, Nat.reducePow, Nat.reduceBEq, Int.reduceToNat, Int.reduceLE, Int.reduceLT, Int.reduceEq, Int.reduceAdd, Int.reduceMul, Int.reduceSub, Int.reduceNeg, Int.reduceNe, Tryd.TS, Tryd.EV]
  refine sdraw (id := 2) Tryd.hT (by kernel_rfl) [2, 4, 6] [] [0, 1, 3, 2, 4, 5, 6] (by kernel_rfl) (by kernel_rfl) (by kernel_rfl) ?_; simp only [gK, ↓reduceIte, Nat.reduceEqDiff]
  have ht32 : List.take 32 s = s := List.take_of_length_le (by omega)
  have hta : List.take (32 + s.length + b.length) (s ++ s ++ b) = s ++ s ++ b := List.take_of_length_le (by simp only [List.length_append]; omega)
  simp -dsimp -implicitDefEqProofs (disch := omega) only [↓reduceIte, ↓gA, gB, refs, den, hasTy, Ty.cmp, Ty.depth, reduceCtorEq, Nat.reduceAdd, Nat.reduceSub, Nat.reduceMul, Nat.reduceEqDiff, Nat.reduceLT, Nat.reduceLeDiff, Nat.reduceMod, Nat.reduceDiv, Nat.reducePow, Nat.reduceBEq, Int.reduceToNat, Int.reduceLE, Int.reduceLT, Int.reduceEq, Int.reduceAdd, Int.reduceMul, Int.reduceSub, Int.reduceNeg, Int.reduceNe, Tryd.TS, Tryd.EV, ht32, hta]
  repeat (refine And.intro (by omega) ?_)
  first | (with_reducible refine HCall_mono (c2) ?_; rintro rs rfl) | (with_reducible refine HCallF_mono (c2) (by first | rfl | simp [flatR, RV.flat, RV.isD, Ty.flat]) ?_) | (refine SCall.mono (c2) ?_; rintro rs rfl)
  simp -dsimp -implicitDefEqProofs (disch := omega) only [↓reduceIte, ↓gA, gB, refs, den, hasTy, Ty.cmp, Ty.depth, reduceCtorEq, Nat.reduceAdd, Nat.reduceSub, Nat.reduceMul, Nat.reduceEqDiff, Nat.reduceLT, Nat.reduceLeDiff, Nat.reduceMod, Nat.reduceDiv, Nat.reducePow, Nat.reduceBEq, Int.reduceToNat, Int.reduceLE, Int.reduceLT, Int.reduceEq, Int.reduceAdd, Int.reduceMul, Int.reduceSub, Int.reduceNeg, Int.reduceNe, Tryd.TS, Tryd.EV]
end Go.Proofs
/- Signatures: rows of bytes. -/
namespace Go.Proofs
open Go.SE

set_option maxHeartbeats 4000000 in
theorem row2 (a b : List D) (ha : a.length = 32) (hb : b.length = 32) : SCall Tryd.prog 57 [(.sl (.arr 32 (.int .u8)), .l [.l a, .l b])] (fun rs => rs = [.own (.int .u8) (a ++ b)]) := by
  have hta : List.take 32 a = a := List.take_of_length_le (by omega)
  have htb : List.take 32 b = b := List.take_of_length_le (by omega)
  refine scall_intro (n := 17) (rl := [.tmp 2]) (us := [27]) Tryd.hT Tryd.func57 rfl rfl rfl rfl rfl (Nat.le_of_ble_eq_true rfl) ?_
  intro w0 hL0
  simp -dsimp -implicitDefEqProofs (disch := omega) only [↓reduceIte, ↓gA, gB, refs, den, hasTy, Ty.cmp, Ty.depth, reduceCtorEq, Nat.reduceAdd, Nat.reduceSub, Nat.reduceMul, Nat.reduceEqDiff, Nat.reduceLT, Nat.reduceLeDiff, Nat.reduceMod, Nat.reduceDiv, Nat.reducePow, Nat.reduceBEq, Int.reduceToNat, Int.reduceLE, Int.reduceLT, Int.reduceEq, Int.reduceAdd, Int.reduceMul, Int.reduceSub, Int.reduceNeg, Int.reduceNe, Tryd.TS, Tryd.EV]
  refine sunroll Tryd.hT ?_; simp -dsimp -implicitDefEqProofs (disch := omega) only [↓reduceIte, ↓gA, gB, refs, den, hasTy, Ty.cmp, Ty.depth, reduceCtorEq, Nat.reduceAdd, Nat.reduceSub, Nat.reduceMul, Nat.reduceEqDiff, Nat.reduceLT, Nat.reduceLeDiff, Nat.reduceMod, Nat.reduceDiv, Nat.reducePow, Nat.reduceBEq, Int.reduceToNat, Int.reduceLE, Int.reduceLT, Int.reduceEq, Int.reduceAdd, Int.reduceMul, Int.reduceSub, Int.reduceNeg, Int.reduceNe, Tryd.TS, Tryd.EV, hta, htb, ha, hb]
  repeat (refine And.intro (by omega) ?_)
  refine sunroll Tryd.hT ?_; simp -dsimp -implicitDefEqProofs (disch := omega) only [↓reduceIte, ↓gA, gB, refs, den, hasTy, Ty.cmp, Ty.depth, reduceCtorEq, Nat.reduceAdd, Nat.reduceSub, Nat.reduceMul, Nat.reduceEqDiff, Nat.reduceLT, Nat.reduceLeDiff, Nat.reduceMod, Nat.reduceDiv, Nat.reducePow, Nat.reduceBEq, Int.reduceToNat, Int.reduceLE, Int.reduceLT, Int.reduceEq, Int.reduceAdd, Int.reduceMul, Int.reduceSub, Int.reduceNeg, Int.reduceNe, Tryd.TS, Tryd.EV, hta, htb, ha, hb]
  repeat (refine And.intro (by omega) ?_)
  refine sunroll Tryd.hT ?_; simp -dsimp -implicitDefEqProofs (disch := omega) only [↓reduceIte, ↓gA, gB, refs, den, hasTy, Ty.cmp, Ty.depth, reduceCtorEq, Nat.reduceAdd, Nat.reduceSub, Nat.reduceMul, Nat.reduceEqDiff, Nat.reduceLT, Nat.reduceLeDiff, Nat.reduceMod, Nat.reduceDiv, Nat.reducePow, Nat.reduceBEq, Int.reduceToNat, Int.reduceLE, Int.reduceLT, Int.reduceEq, Int.reduceAdd, Int.reduceMul, Int.reduceSub, Int.reduceNeg, Int.reduceNe, Tryd.TS, Tryd.EV, hta, htb, ha, hb]
  rw [List.take_of_length_le (by simp only [List.length_append]; omega)]

set_option maxHeartbeats 4000000 in
theorem row3 (a b c : List D) (ha : a.length = 32) (hb : b.length = 32) (hc : c.length = 32) : SCall Tryd.prog 57 [(.sl (.arr 32 (.int .u8)), .l [.l a, .l b, .l c])] (fun rs => rs = [.own (.int .u8) (a ++ b ++ c)]) := by
  have hta : List.take 32 a = a := List.take_of_length_le (by omega)
  have htb : List.take 32 b = b := List.take_of_length_le (by omega)
  have htc : List.take 32 c = c := List.take_of_length_le (by omega)
  refine scall_intro (n := 17) (rl := [.tmp 2]) (us := [27]) Tryd.hT Tryd.func57 rfl rfl rfl rfl rfl (Nat.le_of_ble_eq_true rfl) ?_
  intro w0 hL0
  simp -dsimp -implicitDefEqProofs (disch := omega) only [↓reduceIte, ↓gA, gB, refs, den, hasTy, Ty.cmp, Ty.depth, reduceCtorEq, Nat.reduceAdd, Nat.reduceSub, Nat.reduceMul, Nat.reduceEqDiff, Nat.reduceLT, Nat.reduceLeDiff, Nat.reduceMod, Nat.reduceDiv, Nat.reducePow, Nat.reduceBEq, Int.reduceToNat, Int.reduceLE, Int.reduceLT, Int.reduceEq, Int.reduceAdd, Int.reduceMul, Int.reduceSub, Int.reduceNeg, Int.reduceNe, Tryd.TS, Tryd.EV]
  refine sunroll Tryd.hT ?_; simp -dsimp -implicitDefEqProofs (disch := omega) only [↓reduceIte, ↓gA, gB, refs, den, hasTy, Ty.cmp, Ty.depth, reduceCtorEq, Nat.reduceAdd, Nat.reduceSub, Nat.reduceMul, Nat.reduceEqDiff, Nat.reduceLT, Nat.reduceLeDiff, Nat.reduceMod, Nat.reduceDiv, Nat.reducePow, Nat.reduceBEq, Int.reduceToNat, Int.reduceLE, Int.reduceLT, Int.reduceEq, Int.reduceAdd, Int.reduceMul, Int.reduceSub, Int.reduceNeg, Int.reduceNe, Tryd.TS, Tryd.EV, hta, htb, htc, ha, hb, hc]
  repeat (refine And.intro (by omega) ?_)
  refine sunroll Tryd.hT ?_; simp -dsimp -implicitDefEqProofs (disch := omega) only [↓reduceIte, ↓gA, gB, refs, den, hasTy, Ty.cmp, Ty.depth, reduceCtorEq, Nat.reduceAdd, Nat.reduceSub, Nat.reduceMul, Nat.reduceEqDiff, Nat.reduceLT, Nat.reduceLeDiff, Nat.reduceMod, Nat.reduceDiv, Nat.reducePow, Nat.reduceBEq, Int.reduceToNat, Int.reduceLE, Int.reduceLT, Int.reduceEq, Int.reduceAdd, Int.reduceMul, Int.reduceSub, Int.reduceNeg, Int.reduceNe, Tryd.TS, Tryd.EV, hta, htb, htc, ha, hb, hc]
  repeat (refine And.intro (by omega) ?_)
  refine sunroll Tryd.hT ?_; simp -dsimp -implicitDefEqProofs (disch := omega) only [↓reduceIte, ↓gA, gB, refs, den, hasTy, Ty.cmp, Ty.depth, reduceCtorEq, Nat.reduceAdd, Nat.reduceSub, Nat.reduceMul, Nat.reduceEqDiff, Nat.reduceLT, Nat.reduceLeDiff, Nat.reduceMod, Nat.reduceDiv, Nat.reducePow, Nat.reduceBEq, Int.reduceToNat, Int.reduceLE, Int.reduceLT, Int.reduceEq, Int.reduceAdd, Int.reduceMul, Int.reduceSub, Int.reduceNeg, Int.reduceNe, Tryd.TS, Tryd.EV, hta, htb, htc, ha, hb, hc]
  repeat (refine And.intro (by omega) ?_)
  refine sunroll Tryd.hT ?_; simp -dsimp -implicitDefEqProofs (disch := omega) only [↓reduceIte, ↓gA, gB, refs, den, hasTy, Ty.cmp, Ty.depth, reduceCtorEq, Nat.reduceAdd, Nat.reduceSub, Nat.reduceMul, Nat.reduceEqDiff, Nat.reduceLT, Nat.reduceLeDiff, Nat.reduceMod, Nat.reduceDiv, Nat.reducePow, Nat.reduceBEq, Int.reduceToNat, Int.reduceLE, Int.reduceLT, Int.reduceEq, Int.reduceAdd, Int.reduceMul, Int.reduceSub, Int.reduceNeg, Int.reduceNe, Tryd.TS, Tryd.EV, hta, htb, htc, ha, hb, hc]
  rw [List.take_of_length_le (by simp only [List.length_append]; omega)]

/-- The bytes of a number, the highest first. -/
def toB (n : Nat) : List D := (List.range 32).map fun i => .n ((n / 2 ^ (64 * (3 - i / 8)) % 18446744073709551616 / 2 ^ (56 - 8 * (i % 8)) % 256 : Nat) : Int)
theorem toB_len (n : Nat) : (toB n).length = 32 := by simp [toB]
theorem toB_by (n : Nat) : BY (toB n) := by
  intro x hx
  obtain ⟨i, _, rfl⟩ := List.mem_map.1 hx
  exact ⟨_, rfl, Nat.mod_lt _ (by omega)⟩
theorem tbByte (n i : Nat) : IntKind.u8.wrap (((n : Nat) : Int).fdiv (2 ^ min (56 - 8 * ((i % 8 : Nat) : Int)).toNat IntKind.u64.bits)) = ((n / 2 ^ (56 - 8 * (i % 8)) % 256 : Nat) : Int) := by
  have h1 : min (56 - 8 * ((i % 8 : Nat) : Int)).toNat IntKind.u64.bits = 56 - 8 * (i % 8) := by show min (56 - 8 * ((i % 8 : Nat) : Int)).toNat 64 = _; omega
  rw [h1, show ((2 : Int) ^ (56 - 8 * (i % 8))) = ((2 ^ (56 - 8 * (i % 8)) : Nat) : Int) from (Int.natCast_pow 2 _).symm, Int.fdiv_eq_ediv_of_nonneg _ (Int.natCast_nonneg _), IntKind.wrap_u8]
  omega
theorem tm8' {a : Nat} : (a : Int).tmod 8 = ((a % 8 : Nat) : Int) := rfl
theorem td8' {a : Nat} : (a : Int).tdiv 8 = ((a / 8 : Nat) : Int) := rfl

set_option maxHeartbeats 4000000 in
theorem wbytes (n : Nat) (hn : n < 115792089237316195423570985008687907853269984665640564039457584007913129639936) : SCall Tryd.prog 58 [(.arr 4 (.int .u64), u256 n)] (fun rs => rs = [.d (.arr 32 (.int .u8)) (.l (toB n))]) := by
  refine scall_intro (n := 23) (rl := [.cell 2 33]) (us := [33]) Tryd.hT Tryd.func58 rfl rfl rfl rfl rfl (Nat.le_of_ble_eq_true rfl) ?_
  intro w0 hL0
  simp -dsimp -implicitDefEqProofs (disch := omega) only [↓reduceIte, ↓gA, gB, refs, den, hasTy, Ty.cmp, Ty.depth, reduceCtorEq, Nat.reduceAdd, Nat.reduceSub, Nat.reduceMul, Nat.reduceEqDiff, Nat.reduceLT, Nat.reduceLeDiff, Nat.reduceMod, Nat.reduceDiv, Nat.reducePow, Nat.reduceBEq, Int.reduceToNat, Int.reduceLE, Int.reduceLT, Int.reduceEq, Int.reduceAdd, Int.reduceMul, Int.reduceSub, Int.reduceNeg, Int.reduceNe, Tryd.TS, Tryd.EV]
  refine sloop Tryd.hT (α := Nat) (fun i => ⟨23, [(5, .v (.d (.int .i64) (.n i))), (3, .v (.ptr 2 [])), (2, .v (.ptr 1 [])), (1, .v (.ptr 0 []))], [(0, ⟨.arr 4 (.int .u64), .d (.arr 4 (.int .u64)) (u256 n)⟩), (1, ⟨.arr 32 (.int .u8), .d (.arr 32 (.int .u8)) (.l (List.replicate 32 (.n 0)))⟩), (2, ⟨.arr 32 (.int .u8), .d (.arr 32 (.int .u8)) (.l ((List.range i).map (fun i => .n ((n / 2 ^ (64 * (3 - i / 8)) % 18446744073709551616 / 2 ^ (56 - 8 * (i % 8)) % 256 : Nat) : Int)) ++ List.replicate (32 - i) (.n 0)))⟩)], 3⟩) (fun i => i ≤ 32) (fun i => 32 - i) 0 ?_ (Nat.zero_le _) ?_
  · refine sub_ren w0 hL0 [(0, 0), (1, 1), (2, 2)] rfl rfl (by simp [keysLt]) rfl ?_ ?_
    · simp [renTm, Go.SE.look, renTV, renSV]
    · simp [renOb, Go.SE.look, renSV]
  · intro i hi
    simp -dsimp -implicitDefEqProofs (disch := omega) only [↓reduceIte, ↓gA, gB, refs, den, hasTy, Ty.cmp, Ty.depth, reduceCtorEq, Nat.reduceAdd, Nat.reduceSub, Nat.reduceMul, Nat.reduceEqDiff, Nat.reduceLT, Nat.reduceLeDiff, Nat.reduceMod, Nat.reduceDiv, Nat.reducePow, Nat.reduceBEq, Int.reduceToNat, Int.reduceLE, Int.reduceLT, Int.reduceEq, Int.reduceAdd, Int.reduceMul, Int.reduceSub, Int.reduceNeg, Int.reduceNe, Tryd.TS, Tryd.EV]
    refine HIf_dec (a := ()) (b := ()) (fun h => ?_) (fun h => ?_)
    · have hb := tbByte (n / 2 ^ (64 * (3 - i / 8)) % 18446744073709551616) i
      simp -dsimp -implicitDefEqProofs (disch := omega) only [↓reduceIte, ↓gA, gB, refs, den, hasTy, Ty.cmp, Ty.depth, reduceCtorEq, Nat.reduceAdd, Nat.reduceSub, Nat.reduceMul, Nat.reduceEqDiff, Nat.reduceLT, Nat.reduceLeDiff, Nat.reduceMod, Nat.reduceDiv, Nat.reducePow, Nat.reduceBEq, Int.reduceToNat, Int.reduceLE, Int.reduceLT, Int.reduceEq, Int.reduceAdd, Int.reduceMul, Int.reduceSub, Int.reduceNeg, Int.reduceNe, Tryd.TS, Tryd.EV, td8', tm8', sub3 (show i < 32 by omega), u256_at n (show 3 - i / 8 < 4 by omega), hb]
      repeat (refine And.intro (by omega) ?_)
      refine ⟨i + 1, by omega, by omega, ?_⟩
      refine sub_ren w0 hL0 [(0, 0), (1, 1), (2, 2)] rfl rfl (by simp [keysLt]) rfl ?_ ?_
      · simp [renTm, Go.SE.look, renTV, renSV]
      · have e : 32 - i = (32 - (i + 1)) + 1 := by omega
        rw [e, List.replicate_succ, List.range_succ, List.map_append]
        simp only [hb]
        simp [renOb, Go.SE.look, renSV, List.replicate_succ]
    · simp -dsimp -implicitDefEqProofs (disch := omega) only [↓reduceIte, ↓gA, gB, refs, den, hasTy, Ty.cmp, Ty.depth, reduceCtorEq, Nat.reduceAdd, Nat.reduceSub, Nat.reduceMul, Nat.reduceEqDiff, Nat.reduceLT, Nat.reduceLeDiff, Nat.reduceMod, Nat.reduceDiv, Nat.reducePow, Nat.reduceBEq, Int.reduceToNat, Int.reduceLE, Int.reduceLT, Int.reduceEq, Int.reduceAdd, Int.reduceMul, Int.reduceSub, Int.reduceNeg, Int.reduceNe, Tryd.TS, Tryd.EV]
      have e : i = 32 := by omega
      subst e
      simp [toB]
end Go.Proofs
/- Signatures: keys, challenges. -/
namespace Go.Proofs
open Go.SE

def tagC : ByteArray := { data := #[108, 105, 103, 104, 116, 99, 108, 105, 101, 110, 116, 47, 99, 104, 97, 108, 108, 101, 110, 103, 101] }
def tagN : ByteArray := { data := #[108, 105, 103, 104, 116, 99, 108, 105, 101, 110, 116, 47, 110, 111, 110, 99, 101] }
/-- The challenge. -/
def chal (r x : Nat) (m : List D) : Nat := fb (shaT (bytesD tagC) (toB r ++ toB x ++ m)) % 57896044618658097711785492504343953926634992332820282019728792003956564801911
def nonS (x : Nat) (m : List D) : Nat := fb (shaT (bytesD tagN) (toB x ++ m)) % 57896044618658097711785492504343953926634992332820282019728792003956564801911
/-- The nonce. -/
def nonc (x : Nat) (m : List D) : Nat := if nonS x m = 0 then 1 else nonS x m
theorem chal_lt (r x : Nat) (m : List D) : chal r x m < 57896044618658097711785492504343953926634992332820282019728792003956564801911 := Nat.mod_lt _ (by omega)
theorem nonS_lt (x : Nat) (m : List D) : nonS x m < 57896044618658097711785492504343953926634992332820282019728792003956564801911 := Nat.mod_lt _ (by omega)
theorem nonc_lt (x : Nat) (m : List D) : nonc x m < 57896044618658097711785492504343953926634992332820282019728792003956564801911 := by unfold nonc; split; omega; exact nonS_lt x m
theorem shaT_len (t b : List D) : (shaT t b).length = 32 := sha_len _
theorem shaT_by (t b : List D) : BY (shaT t b) := sha_by _
/-- Scalars of secrets. -/
def secB (x : Nat) : Bool := decide (x ≠ 0) && decide (x < 57896044618658097711785492504343953926634992332820282019728792003956564801911)

theorem cmp_lt (x y : Nat) : decide ((if x < y then (-1 : Int) else if y < x then 1 else 0) < 0) = decide (x < y) := decide_eq_decide.2 (by split <;> (try split) <;> omega)

set_option maxHeartbeats 4000000 in
theorem sscalar (x : Nat) (hx : x < 115792089237316195423570985008687907853269984665640564039457584007913129639936) : SCall Tryd.prog 48 [(.arr 4 (.int .u64), u256 x)] (fun rs => rs = [.d .bool (.b (decide (x < 57896044618658097711785492504343953926634992332820282019728792003956564801911)))]) := by
  have hc := wcmp x 57896044618658097711785492504343953926634992332820282019728792003956564801911 hx (by omega)
  refine scall_intro (n := 7) (rl := [.tmp 2]) (us := [4]) Tryd.hT Tryd.func48 rfl rfl rfl rfl rfl (Nat.le_of_ble_eq_true rfl) ?_
  intro w0 hL0
  simp -dsimp -implicitDefEqProofs (disch := omega) only [↓reduceIte, ↓gA, gB, refs, den, hasTy, Ty.cmp, Ty.depth, reduceCtorEq, Nat.reduceAdd, Nat.reduceSub, Nat.reduceMul, Nat.reduceEqDiff, Nat.reduceLT, Nat.reduceLeDiff, Nat.reduceMod, Nat.reduceDiv, Nat.reducePow, Nat.reduceBEq, Int.reduceToNat, Int.reduceLE, Int.reduceLT, Int.reduceEq, Int.reduceAdd, Int.reduceMul, Int.reduceSub, Int.reduceNeg, Int.reduceNe, Tryd.TS, Tryd.EV, rep4]
  refine sdraw (id := 1) Tryd.hT (by kernel_rfl) [] [] [0, 1, 2, 3, 4] (by kernel_rfl) (by kernel_rfl) (by kernel_rfl) ?_; simp only [gK, ↓reduceIte, Nat.reduceEqDiff]
  simp -dsimp -implicitDefEqProofs (disch := omega) only [↓reduceIte, ↓gA, gB, refs, den, hasTy, Ty.cmp, Ty.depth, reduceCtorEq, Nat.reduceAdd, Nat.reduceSub, Nat.reduceMul, Nat.reduceEqDiff, Nat.reduceLT, Nat.reduceLeDiff, Nat.reduceMod, Nat.reduceDiv, Nat.reducePow, Nat.reduceBEq, Int.reduceToNat, Int.reduceLE, Int.reduceLT, Int.reduceEq, Int.reduceAdd, Int.reduceMul, Int.reduceSub, Int.reduceNeg, Int.reduceNe, Tryd.TS, Tryd.EV, rep4]
  first | (with_reducible refine HCall_mono (gorder) ?_; rintro rs rfl) | (with_reducible refine HCallF_mono (gorder) (by first | rfl | simp [flatR, RV.flat, RV.isD, Ty.flat]) ?_) | (refine SCall.mono (gorder) ?_; rintro rs rfl)
  simp -dsimp -implicitDefEqProofs (disch := omega) only [↓reduceIte, ↓gA, gB, refs, den, hasTy, Ty.cmp, Ty.depth, reduceCtorEq, Nat.reduceAdd, Nat.reduceSub, Nat.reduceMul, Nat.reduceEqDiff, Nat.reduceLT, Nat.reduceLeDiff, Nat.reduceMod, Nat.reduceDiv, Nat.reducePow, Nat.reduceBEq, Int.reduceToNat, Int.reduceLE, Int.reduceLT, Int.reduceEq, Int.reduceAdd, Int.reduceMul, Int.reduceSub, Int.reduceNeg, Int.reduceNe, Tryd.TS, Tryd.EV]
  first | (with_reducible refine HCall_mono (hc) ?_; rintro rs rfl) | (with_reducible refine HCallF_mono (hc) (by first | rfl | simp [flatR, RV.flat, RV.isD, Ty.flat]) ?_) | (refine SCall.mono (hc) ?_; rintro rs rfl)
  simp -dsimp -implicitDefEqProofs (disch := omega) only [↓reduceIte, ↓gA, gB, refs, den, hasTy, Ty.cmp, Ty.depth, reduceCtorEq, Nat.reduceAdd, Nat.reduceSub, Nat.reduceMul, Nat.reduceEqDiff, Nat.reduceLT, Nat.reduceLeDiff, Nat.reduceMod, Nat.reduceDiv, Nat.reducePow, Nat.reduceBEq, Int.reduceToNat, Int.reduceLE, Int.reduceLT, Int.reduceEq, Int.reduceAdd, Int.reduceMul, Int.reduceSub, Int.reduceNeg, Int.reduceNe, Tryd.TS, Tryd.EV]
  rw [cmp_lt]

set_option maxHeartbeats 4000000 in
theorem ssecret (x : Nat) (hx : x < 115792089237316195423570985008687907853269984665640564039457584007913129639936) : SCall Tryd.prog 39 [(.arr 4 (.int .u64), u256 x)] (fun rs => rs = [.d .bool (.b (secB x))]) := by
  have hc := wcmp x 57896044618658097711785492504343953926634992332820282019728792003956564801911 hx (by omega)
  refine scall_intro (n := 12) (rl := [.tmp 2]) (us := [4]) Tryd.hT Tryd.func39 rfl rfl rfl rfl rfl (Nat.le_of_ble_eq_true rfl) ?_
  intro w0 hL0
  simp -dsimp -implicitDefEqProofs (disch := omega) only [↓reduceIte, ↓gA, gB, refs, den, hasTy, Ty.cmp, Ty.depth, reduceCtorEq, Nat.reduceAdd, Nat.reduceSub, Nat.reduceMul, Nat.reduceEqDiff, Nat.reduceLT, Nat.reduceLeDiff, Nat.reduceMod, Nat.reduceDiv, Nat.reducePow, Nat.reduceBEq, Int.reduceToNat, Int.reduceLE, Int.reduceLT, Int.reduceEq, Int.reduceAdd, Int.reduceMul, Int.reduceSub, Int.reduceNeg, Int.reduceNe, Tryd.TS, Tryd.EV, rep4]
  refine sdraw (id := 1) Tryd.hT (by kernel_rfl) [] [] [0, 1, 2, 3, 4, 5, 6, 7, 8, 9] (by kernel_rfl) (by kernel_rfl) (by kernel_rfl) ?_; simp only [gK, ↓reduceIte, Nat.reduceEqDiff]
  simp -dsimp -implicitDefEqProofs (disch := omega) only [↓reduceIte, ↓gA, gB, refs, den, hasTy, Ty.cmp, Ty.depth, reduceCtorEq, Nat.reduceAdd, Nat.reduceSub, Nat.reduceMul, Nat.reduceEqDiff, Nat.reduceLT, Nat.reduceLeDiff, Nat.reduceMod, Nat.reduceDiv, Nat.reducePow, Nat.reduceBEq, Int.reduceToNat, Int.reduceLE, Int.reduceLT, Int.reduceEq, Int.reduceAdd, Int.reduceMul, Int.reduceSub, Int.reduceNeg, Int.reduceNe, Tryd.TS, Tryd.EV, rep4, u256_zero, u256_inj hx (show 0 < 115792089237316195423570985008687907853269984665640564039457584007913129639936 by omega)]
  refine HIf_ndec (a := ()) (b := ()) (fun h => ?_) (fun h => ?_)
  · simp -dsimp -implicitDefEqProofs (disch := omega) only [↓reduceIte, ↓gA, gB, refs, den, hasTy, Ty.cmp, Ty.depth, reduceCtorEq, Nat.reduceAdd, Nat.reduceSub, Nat.reduceMul, Nat.reduceEqDiff, Nat.reduceLT, Nat.reduceLeDiff, Nat.reduceMod, Nat.reduceDiv, Nat.reducePow, Nat.reduceBEq, Int.reduceToNat, Int.reduceLE, Int.reduceLT, Int.reduceEq, Int.reduceAdd, Int.reduceMul, Int.reduceSub, Int.reduceNeg, Int.reduceNe, Tryd.TS, Tryd.EV, rep4]
    first | (with_reducible refine HCall_mono (gorder) ?_; rintro rs rfl) | (with_reducible refine HCallF_mono (gorder) (by first | rfl | simp [flatR, RV.flat, RV.isD, Ty.flat]) ?_) | (refine SCall.mono (gorder) ?_; rintro rs rfl)
    simp -dsimp -implicitDefEqProofs (disch := omega) only [↓reduceIte, ↓gA, gB, refs, den, hasTy, Ty.cmp, Ty.depth, reduceCtorEq, Nat.reduceAdd, Nat.reduceSub, Nat.reduceMul, Nat.reduceEqDiff, Nat.reduceLT, Nat.reduceLeDiff, Nat.reduceMod, Nat.reduceDiv, Nat.reducePow, Nat.reduceBEq, Int.reduceToNat, Int.reduceLE, Int.reduceLT, Int.reduceEq, Int.reduceAdd, Int.reduceMul, Int.reduceSub, Int.reduceNeg, Int.reduceNe, Tryd.TS, Tryd.EV]
    first | (with_reducible refine HCall_mono (hc) ?_; rintro rs rfl) | (with_reducible refine HCallF_mono (hc) (by first | rfl | simp [flatR, RV.flat, RV.isD, Ty.flat]) ?_) | (refine SCall.mono (hc) ?_; rintro rs rfl)
    simp -dsimp -implicitDefEqProofs (disch := omega) only [↓reduceIte, ↓gA, gB, refs, den, hasTy, Ty.cmp, Ty.depth, reduceCtorEq, Nat.reduceAdd, Nat.reduceSub, Nat.reduceMul, Nat.reduceEqDiff, Nat.reduceLT, Nat.reduceLeDiff, Nat.reduceMod, Nat.reduceDiv, Nat.reducePow, Nat.reduceBEq, Int.reduceToNat, Int.reduceLE, Int.reduceLT, Int.reduceEq, Int.reduceAdd, Int.reduceMul, Int.reduceSub, Int.reduceNeg, Int.reduceNe, Tryd.TS, Tryd.EV]
    rw [cmp_lt, secB, decide_eq_true h, Bool.true_and]
  · simp -dsimp -implicitDefEqProofs (disch := omega) only [↓reduceIte, ↓gA, gB, refs, den, hasTy, Ty.cmp, Ty.depth, reduceCtorEq, Nat.reduceAdd, Nat.reduceSub, Nat.reduceMul, Nat.reduceEqDiff, Nat.reduceLT, Nat.reduceLeDiff, Nat.reduceMod, Nat.reduceDiv, Nat.reducePow, Nat.reduceBEq, Int.reduceToNat, Int.reduceLE, Int.reduceLT, Int.reduceEq, Int.reduceAdd, Int.reduceMul, Int.reduceSub, Int.reduceNeg, Int.reduceNe, Tryd.TS, Tryd.EV]
    rw [secB, decide_eq_false (show ¬ x ≠ 0 by omega), Bool.false_and]

set_option maxHeartbeats 4000000 in
theorem schallenge (r x : Nat) (m : List D) (hr : r < 115792089237316195423570985008687907853269984665640564039457584007913129639936) (hx : x < 115792089237316195423570985008687907853269984665640564039457584007913129639936) (hm : BY m) (hml : m.length = 32) : SCall Tryd.prog 19 [(.arr 4 (.int .u64), u256 r), (.arr 4 (.int .u64), u256 x), (.arr 32 (.int .u8), .l m)] (fun rs => rs = [.d (.arr 4 (.int .u64)) (u256 (chal r x m))]) := by
  have c1 := wbytes r hr
  have c2 := wbytes x hx
  have l1 := toB_len r
  have l2 := toB_len x
  have c3 := row3 (toB r) (toB x) m l1 l2 hml
  have hBY := ((toB_by r).append (toB_by x)).append hm
  have c4 := tagged' tagC (toB r ++ toB x ++ m) hBY (by simp only [List.length_append]; omega) (by show tagC.size ≤ _; decide)
  have c5 := gscalar (shaT (bytesD tagC) (toB r ++ toB x ++ m)) (shaT_by _ _) (shaT_len _ _)
  unfold chal
  generalize fb (shaT (bytesD tagC) (toB r ++ toB x ++ m)) % 57896044618658097711785492504343953926634992332820282019728792003956564801911 = e at *
  generalize shaT (bytesD tagC) (toB r ++ toB x ++ m) = s at *
  generalize toB r = br at *
  generalize toB x = bx at *
  refine scall_intro (n := 16) (rl := [.cell 6 45]) (us := [45]) Tryd.hT Tryd.func19 rfl rfl rfl rfl rfl (Nat.le_of_ble_eq_true rfl) ?_
  intro w0 hL0
  simp -dsimp -implicitDefEqProofs (disch := omega) only [↓reduceIte, ↓gA, gB, refs, den, hasTy, Ty.cmp, Ty.depth, reduceCtorEq, Nat.reduceAdd, Nat.reduceSub, Nat.reduceMul, Nat.reduceEqDiff, Nat.reduceLT, Nat.reduceLeDiff, Nat.reduceMod, Nat.reduceDiv, Nat.reducePow, Nat.reduceBEq, Int.reduceToNat, Int.reduceLE, Int.reduceLT, Int.reduceEq, Int.reduceAdd, Int.reduceMul, Int.reduceSub, Int.reduceNeg, Int.reduceNe, Tryd.TS, Tryd.EV, rep4]
  refine sdraw (id := 1) Tryd.hT (by kernel_rfl) [9] [] [0, 2, 4, 1, 3, 5, 6, 7, 8, 9] (by kernel_rfl) (by kernel_rfl) (by kernel_rfl) ?_; simp only [gK, ↓reduceIte, Nat.reduceEqDiff]
  simp -dsimp -implicitDefEqProofs (disch := omega) only [↓reduceIte, ↓gA, gB, refs, den, hasTy, Ty.cmp, Ty.depth, reduceCtorEq, Nat.reduceAdd, Nat.reduceSub, Nat.reduceMul, Nat.reduceEqDiff, Nat.reduceLT, Nat.reduceLeDiff, Nat.reduceMod, Nat.reduceDiv, Nat.reducePow, Nat.reduceBEq, Int.reduceToNat, Int.reduceLE, Int.reduceLT, Int.reduceEq, Int.reduceAdd, Int.reduceMul, Int.reduceSub, Int.reduceNeg, Int.reduceNe, Tryd.TS, Tryd.EV, rep4]
  first | (with_reducible refine HCall_mono (c1) ?_; rintro rs rfl) | (with_reducible refine HCallF_mono (c1) (by first | rfl | simp [flatR, RV.flat, RV.isD, Ty.flat]) ?_) | (refine SCall.mono (c1) ?_; rintro rs rfl)
  simp -dsimp -implicitDefEqProofs (disch := omega) only [↓reduceIte, ↓gA, gB, refs, den, hasTy, Ty.cmp, Ty.depth, reduceCtorEq, Nat.reduceAdd, Nat.reduceSub, Nat.reduceMul, Nat.reduceEqDiff, Nat.reduceLT, Nat.reduceLeDiff, Nat.reduceMod, Nat.reduceDiv, Nat.reducePow, Nat.reduceBEq, Int.reduceToNat, Int.reduceLE, Int.reduceLT, Int.reduceEq, Int.reduceAdd, Int.reduceMul, Int.reduceSub, Int.reduceNeg, Int.reduceNe, Tryd.TS, Tryd.EV]
  first | (with_reducible refine HCall_mono (c2) ?_; rintro rs rfl) | (with_reducible refine HCallF_mono (c2) (by first | rfl | simp [flatR, RV.flat, RV.isD, Ty.flat]) ?_) | (refine SCall.mono (c2) ?_; rintro rs rfl)
  simp -dsimp -implicitDefEqProofs (disch := omega) only [↓reduceIte, ↓gA, gB, refs, den, hasTy, Ty.cmp, Ty.depth, reduceCtorEq, Nat.reduceAdd, Nat.reduceSub, Nat.reduceMul, Nat.reduceEqDiff, Nat.reduceLT, Nat.reduceLeDiff, Nat.reduceMod, Nat.reduceDiv, Nat.reducePow, Nat.reduceBEq, Int.reduceToNat, Int.reduceLE, Int.reduceLT, Int.reduceEq, Int.reduceAdd, Int.reduceMul, Int.reduceSub, Int.reduceNeg, Int.reduceNe, Tryd.TS, Tryd.EV]
  first | (with_reducible refine HCall_mono (c3) ?_; rintro rs rfl) | (with_reducible refine HCallF_mono (c3) (by first | rfl | simp [flatR, RV.flat, RV.isD, Ty.flat]) ?_) | (refine SCall.mono (c3) ?_; rintro rs rfl)
  simp -dsimp -implicitDefEqProofs (disch := omega) only [↓reduceIte, ↓gA, gB, refs, den, hasTy, Ty.cmp, Ty.depth, reduceCtorEq, Nat.reduceAdd, Nat.reduceSub, Nat.reduceMul, Nat.reduceEqDiff, Nat.reduceLT, Nat.reduceLeDiff, Nat.reduceMod, Nat.reduceDiv, Nat.reducePow, Nat.reduceBEq, Int.reduceToNat, Int.reduceLE, Int.reduceLT, Int.reduceEq, Int.reduceAdd, Int.reduceMul, Int.reduceSub, Int.reduceNeg, Int.reduceNe, Tryd.TS, Tryd.EV]
  first | (with_reducible refine HCall_mono (c4) ?_; rintro rs rfl) | (with_reducible refine HCallF_mono (c4) (by first | rfl | simp [flatR, RV.flat, RV.isD, Ty.flat]) ?_) | (refine SCall.mono (c4) ?_; rintro rs rfl)
  simp -dsimp -implicitDefEqProofs (disch := omega) only [↓reduceIte, ↓gA, gB, refs, den, hasTy, Ty.cmp, Ty.depth, reduceCtorEq, Nat.reduceAdd, Nat.reduceSub, Nat.reduceMul, Nat.reduceEqDiff, Nat.reduceLT, Nat.reduceLeDiff, Nat.reduceMod, Nat.reduceDiv, Nat.reducePow, Nat.reduceBEq, Int.reduceToNat, Int.reduceLE, Int.reduceLT, Int.reduceEq, Int.reduceAdd, Int.reduceMul, Int.reduceSub, Int.reduceNeg, Int.reduceNe, Tryd.TS, Tryd.EV]
  first | (with_reducible refine HCall_mono (c5) ?_; rintro rs rfl) | (with_reducible refine HCallF_mono (c5) (by first | rfl | simp [flatR, RV.flat, RV.isD, Ty.flat]) ?_) | (refine SCall.mono (c5) ?_; rintro rs rfl)
  simp -dsimp -implicitDefEqProofs (disch := omega) only [↓reduceIte, ↓gA, gB, refs, den, hasTy, Ty.cmp, Ty.depth, reduceCtorEq, Nat.reduceAdd, Nat.reduceSub, Nat.reduceMul, Nat.reduceEqDiff, Nat.reduceLT, Nat.reduceLeDiff, Nat.reduceMod, Nat.reduceDiv, Nat.reducePow, Nat.reduceBEq, Int.reduceToNat, Int.reduceLE, Int.reduceLT, Int.reduceEq, Int.reduceAdd, Int.reduceMul, Int.reduceSub, Int.reduceNeg, Int.reduceNe, Tryd.TS, Tryd.EV]

set_option maxHeartbeats 4000000 in
theorem snonce (x : Nat) (m : List D) (hx : x < 115792089237316195423570985008687907853269984665640564039457584007913129639936) (hm : BY m) (hml : m.length = 32) : SCall Tryd.prog 41 [(.arr 4 (.int .u64), u256 x), (.arr 32 (.int .u8), .l m)] (fun rs => rs = [.d (.arr 4 (.int .u64)) (u256 (nonc x m))]) := by
  have hf : SCall Tryd.prog 46 [(.int .u64, .n 1)] (fun rs => rs = [.d (.arr 4 (.int .u64)) (u256 1)]) := fromUint 1 (by omega)
  have c2 := wbytes x hx
  have l2 := toB_len x
  have c3 := row2 (toB x) m l2 hml
  have hBY := (toB_by x).append hm
  have c4 := tagged' tagN (toB x ++ m) hBY (by simp only [List.length_append]; omega) (by show tagN.size ≤ _; decide)
  have c5 := gscalar (shaT (bytesD tagN) (toB x ++ m)) (shaT_by _ _) (shaT_len _ _)
  have hlt := nonS_lt x m
  unfold nonc
  unfold nonS at *
  generalize fb (shaT (bytesD tagN) (toB x ++ m)) % 57896044618658097711785492504343953926634992332820282019728792003956564801911 = e at *
  generalize shaT (bytesD tagN) (toB x ++ m) = s at *
  generalize toB x = bx at *
  have heM : e < 115792089237316195423570985008687907853269984665640564039457584007913129639936 := by omega
  unfold tagN at c4
  refine scall_intro (n := 18) (rl := [.cell 4 45]) (us := [45]) Tryd.hT Tryd.func41 rfl rfl rfl rfl rfl (Nat.le_of_ble_eq_true rfl) ?_
  intro w0 hL0
  simp -dsimp -implicitDefEqProofs (disch := omega) only [↓reduceIte, ↓gA, gB, refs, den, hasTy, Ty.cmp, Ty.depth, reduceCtorEq, Nat.reduceAdd, Nat.reduceSub, Nat.reduceMul, Nat.reduceEqDiff, Nat.reduceLT, Nat.reduceLeDiff, Nat.reduceMod, Nat.reduceDiv, Nat.reducePow, Nat.reduceBEq, Int.reduceToNat, Int.reduceLE, Int.reduceLT, Int.reduceEq, Int.reduceAdd, Int.reduceMul, Int.reduceSub, Int.reduceNeg, Int.reduceNe, Tryd.TS, Tryd.EV, rep4]
  refine sdrawM Tryd.hT (by kernel_rfl) [8] [1, 5, 6] (.alt 0 (.alt 2 (.alt 1 (.alt 3 (.alt 4 (.alt 5 (.alt 6 (.alt 7 (.alt 8 .nil .nil) .nil) .nil) .nil) (.alt 7 (.alt 4 (.alt 5 (.alt 6 (.alt 8 .nil .nil) .nil) .nil) .nil) .nil)) (.alt 7 (.alt 3 (.alt 4 (.alt 5 (.alt 6 (.alt 8 .nil .nil) .nil) .nil) .nil) .nil) .nil)) .nil) .nil) .nil) ⟨18, [(4, .v (.ptr 2 [])), (5, .v (.ptr 3 []))], [(2, ⟨.arr 4 (.int .u64), .d (.arr 4 (.int .u64)) (.l [.n 0, .n 0, .n 0, .n 0])⟩), (3, ⟨.arr 4 (.int .u64), .d (.arr 4 (.int .u64)) (u256 e)⟩)], 4⟩ (by kernel_rfl) (by kernel_rfl) ?_ ?_
  · simp only [tr_alt, tr_nil, tr_nil', gK, ↓reduceIte, Nat.reduceEqDiff]
    simp -dsimp -implicitDefEqProofs (disch := omega) only [↓reduceIte, ↓gA, gB, refs, den, hasTy, Ty.cmp, Ty.depth, reduceCtorEq, Nat.reduceAdd, Nat.reduceSub, Nat.reduceMul, Nat.reduceEqDiff, Nat.reduceLT, Nat.reduceLeDiff, Nat.reduceMod, Nat.reduceDiv, Nat.reducePow, Nat.reduceBEq, Int.reduceToNat, Int.reduceLE, Int.reduceLT, Int.reduceEq, Int.reduceAdd, Int.reduceMul, Int.reduceSub, Int.reduceNeg, Int.reduceNe, Tryd.TS, Tryd.EV, rep4]
    repeat' (first
      | with_reducible refine And.intro ?_ ?_
      | (first | (with_reducible refine HCall_mono (c2) ?_; rintro rs rfl) | (with_reducible refine HCallF_mono (c2) (by first | rfl | simp [flatR, RV.flat, RV.isD, Ty.flat]) ?_)
         simp -dsimp -implicitDefEqProofs (disch := omega) only [↓reduceIte, ↓gA, gB, refs, den, hasTy, Ty.cmp, Ty.depth, reduceCtorEq, Nat.reduceAdd, Nat.reduceSub, Nat.reduceMul, Nat.reduceEqDiff, Nat.reduceLT, Nat.reduceLeDiff, Nat.reduceMod, Nat.reduceDiv, Nat.reducePow, Nat.reduceBEq, Int.reduceToNat, Int.reduceLE, Int.reduceLT, Int.reduceEq, Int.reduceAdd, Int.reduceMul, Int.reduceSub, Int.reduceNeg, Int.reduceNe, Tryd.TS, Tryd.EV, rep4])
      | (first | (with_reducible refine HCall_mono (c3) ?_; rintro rs rfl) | (with_reducible refine HCallF_mono (c3) (by first | rfl | simp [flatR, RV.flat, RV.isD, Ty.flat]) ?_)
         simp -dsimp -implicitDefEqProofs (disch := omega) only [↓reduceIte, ↓gA, gB, refs, den, hasTy, Ty.cmp, Ty.depth, reduceCtorEq, Nat.reduceAdd, Nat.reduceSub, Nat.reduceMul, Nat.reduceEqDiff, Nat.reduceLT, Nat.reduceLeDiff, Nat.reduceMod, Nat.reduceDiv, Nat.reducePow, Nat.reduceBEq, Int.reduceToNat, Int.reduceLE, Int.reduceLT, Int.reduceEq, Int.reduceAdd, Int.reduceMul, Int.reduceSub, Int.reduceNeg, Int.reduceNe, Tryd.TS, Tryd.EV, rep4])
      | (first | (with_reducible refine HCall_mono (c4) ?_; rintro rs rfl) | (with_reducible refine HCallF_mono (c4) (by first | rfl | simp [flatR, RV.flat, RV.isD, Ty.flat]) ?_)
         simp -dsimp -implicitDefEqProofs (disch := omega) only [↓reduceIte, ↓gA, gB, refs, den, hasTy, Ty.cmp, Ty.depth, reduceCtorEq, Nat.reduceAdd, Nat.reduceSub, Nat.reduceMul, Nat.reduceEqDiff, Nat.reduceLT, Nat.reduceLeDiff, Nat.reduceMod, Nat.reduceDiv, Nat.reducePow, Nat.reduceBEq, Int.reduceToNat, Int.reduceLE, Int.reduceLT, Int.reduceEq, Int.reduceAdd, Int.reduceMul, Int.reduceSub, Int.reduceNeg, Int.reduceNe, Tryd.TS, Tryd.EV, rep4])
      | (first | (with_reducible refine HCall_mono (c5) ?_; rintro rs rfl) | (with_reducible refine HCallF_mono (c5) (by first | rfl | simp [flatR, RV.flat, RV.isD, Ty.flat]) ?_)
         simp -dsimp -implicitDefEqProofs (disch := omega) only [↓reduceIte, ↓gA, gB, refs, den, hasTy, Ty.cmp, Ty.depth, reduceCtorEq, Nat.reduceAdd, Nat.reduceSub, Nat.reduceMul, Nat.reduceEqDiff, Nat.reduceLT, Nat.reduceLeDiff, Nat.reduceMod, Nat.reduceDiv, Nat.reducePow, Nat.reduceBEq, Int.reduceToNat, Int.reduceLE, Int.reduceLT, Int.reduceEq, Int.reduceAdd, Int.reduceMul, Int.reduceSub, Int.reduceNeg, Int.reduceNe, Tryd.TS, Tryd.EV, rep4])
      | with_reducible exact True.intro
      | (first | (refine sub_ren w0 hL0 [(0, 0), (1, 1), (2, 2), (3, 8)] rfl rfl ?_ rfl ?_ ?_; (focus (simp [keysLt]; done)); (focus (simp [renTm, Go.SE.look, renTV, renSV]; done)); (focus (simp [renOb, Go.SE.look, renSV]; done))) | (refine sub_ren w0 hL0 [(0, 0), (1, 1), (2, 2), (3, 5)] rfl rfl ?_ rfl ?_ ?_; (focus (simp [keysLt]; done)); (focus (simp [renTm, Go.SE.look, renTV, renSV]; done)); (focus (simp [renOb, Go.SE.look, renSV]; done))) | (refine sub_ren w0 hL0 [(0, 0), (1, 1), (2, 2), (3, 4)] rfl rfl ?_ rfl ?_ ?_; (focus (simp [keysLt]; done)); (focus (simp [renTm, Go.SE.look, renTV, renSV]; done)); (focus (simp [renOb, Go.SE.look, renSV]; done)))))
  simp -dsimp -implicitDefEqProofs (disch := omega) only [↓reduceIte, ↓gA, gB, refs, den, hasTy, Ty.cmp, Ty.depth, reduceCtorEq, Nat.reduceAdd, Nat.reduceSub, Nat.reduceMul, Nat.reduceEqDiff, Nat.reduceLT, Nat.reduceLeDiff, Nat.reduceMod, Nat.reduceDiv, Nat.reducePow, Nat.reduceBEq, Int.reduceToNat, Int.reduceLE, Int.reduceLT, Int.reduceEq, Int.reduceAdd, Int.reduceMul, Int.reduceSub, Int.reduceNeg, Int.reduceNe, Tryd.TS, Tryd.EV, rep4, u256_zero, u256_inj heM (show 0 < 115792089237316195423570985008687907853269984665640564039457584007913129639936 by omega)]
  refine HIf_dec (a := ()) (b := ()) (fun h => ?_) (fun h => ?_)
  · simp -dsimp -implicitDefEqProofs (disch := omega) only [↓reduceIte, ↓gA, gB, refs, den, hasTy, Ty.cmp, Ty.depth, reduceCtorEq, Nat.reduceAdd, Nat.reduceSub, Nat.reduceMul, Nat.reduceEqDiff, Nat.reduceLT, Nat.reduceLeDiff, Nat.reduceMod, Nat.reduceDiv, Nat.reducePow, Nat.reduceBEq, Int.reduceToNat, Int.reduceLE, Int.reduceLT, Int.reduceEq, Int.reduceAdd, Int.reduceMul, Int.reduceSub, Int.reduceNeg, Int.reduceNe, Tryd.TS, Tryd.EV]
    first | (with_reducible refine HCall_mono (hf) ?_; rintro rs rfl) | (with_reducible refine HCallF_mono (hf) (by first | rfl | simp [flatR, RV.flat, RV.isD, Ty.flat]) ?_) | (refine SCall.mono (hf) ?_; rintro rs rfl)
    simp -dsimp -implicitDefEqProofs (disch := omega) only [↓reduceIte, ↓gA, gB, refs, den, hasTy, Ty.cmp, Ty.depth, reduceCtorEq, Nat.reduceAdd, Nat.reduceSub, Nat.reduceMul, Nat.reduceEqDiff, Nat.reduceLT, Nat.reduceLeDiff, Nat.reduceMod, Nat.reduceDiv, Nat.reducePow, Nat.reduceBEq, Int.reduceToNat, Int.reduceLE, Int.reduceLT, Int.reduceEq, Int.reduceAdd, Int.reduceMul, Int.reduceSub, Int.reduceNeg, Int.reduceNe, Tryd.TS, Tryd.EV]
    rw [if_pos h]
  · simp -dsimp -implicitDefEqProofs (disch := omega) only [↓reduceIte, ↓gA, gB, refs, den, hasTy, Ty.cmp, Ty.depth, reduceCtorEq, Nat.reduceAdd, Nat.reduceSub, Nat.reduceMul, Nat.reduceEqDiff, Nat.reduceLT, Nat.reduceLeDiff, Nat.reduceMod, Nat.reduceDiv, Nat.reducePow, Nat.reduceBEq, Int.reduceToNat, Int.reduceLE, Int.reduceLT, Int.reduceEq, Int.reduceAdd, Int.reduceMul, Int.reduceSub, Int.reduceNeg, Int.reduceNe, Tryd.TS, Tryd.EV]
    rw [if_neg h]

/-- Keys that are valid. -/
def valB (q x : Nat) : Bool := decide (x ≠ 1) && mem q x

set_option maxHeartbeats 4000000 in
theorem svalid (x q : Nat) (hx : x < 115792089237316195423570985008687907853269984665640564039457584007913129639936) (hq : q = 57896044618658097711785492504343953926634992332820282019728792003956564801911) : SCall Tryd.prog 16 [(.arr 4 (.int .u64), u256 x)] (fun rs => rs = [.d .bool (.b (valB q x))]) := by
  have hf : SCall Tryd.prog 46 [(.int .u64, .n 1)] (fun rs => rs = [.d (.arr 4 (.int .u64)) (u256 1)]) := fromUint 1 (by omega)
  have hm := gmember x q hx hq
  unfold valB
  generalize mem q x = b at *
  refine scall_intro (n := 10) (rl := [.tmp 2]) (us := [4]) Tryd.hT Tryd.func16 rfl rfl rfl rfl rfl (Nat.le_of_ble_eq_true rfl) ?_
  intro w0 hL0
  simp -dsimp -implicitDefEqProofs (disch := omega) only [↓reduceIte, ↓gA, gB, refs, den, hasTy, Ty.cmp, Ty.depth, reduceCtorEq, Nat.reduceAdd, Nat.reduceSub, Nat.reduceMul, Nat.reduceEqDiff, Nat.reduceLT, Nat.reduceLeDiff, Nat.reduceMod, Nat.reduceDiv, Nat.reducePow, Nat.reduceBEq, Int.reduceToNat, Int.reduceLE, Int.reduceLT, Int.reduceEq, Int.reduceAdd, Int.reduceMul, Int.reduceSub, Int.reduceNeg, Int.reduceNe, Tryd.TS, Tryd.EV, rep4]
  refine sdraw (id := 1) Tryd.hT (by kernel_rfl) [] [] [0, 1, 2, 3, 4, 5, 6, 7] (by kernel_rfl) (by kernel_rfl) (by kernel_rfl) ?_; simp only [gK, ↓reduceIte, Nat.reduceEqDiff]
  simp -dsimp -implicitDefEqProofs (disch := omega) only [↓reduceIte, ↓gA, gB, refs, den, hasTy, Ty.cmp, Ty.depth, reduceCtorEq, Nat.reduceAdd, Nat.reduceSub, Nat.reduceMul, Nat.reduceEqDiff, Nat.reduceLT, Nat.reduceLeDiff, Nat.reduceMod, Nat.reduceDiv, Nat.reducePow, Nat.reduceBEq, Int.reduceToNat, Int.reduceLE, Int.reduceLT, Int.reduceEq, Int.reduceAdd, Int.reduceMul, Int.reduceSub, Int.reduceNeg, Int.reduceNe, Tryd.TS, Tryd.EV, rep4]
  first | (with_reducible refine HCall_mono (hf) ?_; rintro rs rfl) | (with_reducible refine HCallF_mono (hf) (by first | rfl | simp [flatR, RV.flat, RV.isD, Ty.flat]) ?_) | (refine SCall.mono (hf) ?_; rintro rs rfl)
  simp -dsimp -implicitDefEqProofs (disch := omega) only [↓reduceIte, ↓gA, gB, refs, den, hasTy, Ty.cmp, Ty.depth, reduceCtorEq, Nat.reduceAdd, Nat.reduceSub, Nat.reduceMul, Nat.reduceEqDiff, Nat.reduceLT, Nat.reduceLeDiff, Nat.reduceMod, Nat.reduceDiv, Nat.reducePow, Nat.reduceBEq, Int.reduceToNat, Int.reduceLE, Int.reduceLT, Int.reduceEq, Int.reduceAdd, Int.reduceMul, Int.reduceSub, Int.reduceNeg, Int.reduceNe, Tryd.TS, Tryd.EV, u256_inj hx (show 1 < 115792089237316195423570985008687907853269984665640564039457584007913129639936 by omega)]
  refine HIf_ndec (a := ()) (b := ()) (fun h => ?_) (fun h => ?_)
  · simp -dsimp -implicitDefEqProofs (disch := omega) only [↓reduceIte, ↓gA, gB, refs, den, hasTy, Ty.cmp, Ty.depth, reduceCtorEq, Nat.reduceAdd, Nat.reduceSub, Nat.reduceMul, Nat.reduceEqDiff, Nat.reduceLT, Nat.reduceLeDiff, Nat.reduceMod, Nat.reduceDiv, Nat.reducePow, Nat.reduceBEq, Int.reduceToNat, Int.reduceLE, Int.reduceLT, Int.reduceEq, Int.reduceAdd, Int.reduceMul, Int.reduceSub, Int.reduceNeg, Int.reduceNe, Tryd.TS, Tryd.EV]
    first | (with_reducible refine HCall_mono (hm) ?_; rintro rs rfl) | (with_reducible refine HCallF_mono (hm) (by first | rfl | simp [flatR, RV.flat, RV.isD, Ty.flat]) ?_) | (refine SCall.mono (hm) ?_; rintro rs rfl)
    simp -dsimp -implicitDefEqProofs (disch := omega) only [↓reduceIte, ↓gA, gB, refs, den, hasTy, Ty.cmp, Ty.depth, reduceCtorEq, Nat.reduceAdd, Nat.reduceSub, Nat.reduceMul, Nat.reduceEqDiff, Nat.reduceLT, Nat.reduceLeDiff, Nat.reduceMod, Nat.reduceDiv, Nat.reducePow, Nat.reduceBEq, Int.reduceToNat, Int.reduceLE, Int.reduceLT, Int.reduceEq, Int.reduceAdd, Int.reduceMul, Int.reduceSub, Int.reduceNeg, Int.reduceNe, Tryd.TS, Tryd.EV]
    rw [decide_eq_true h, Bool.true_and]
  · simp -dsimp -implicitDefEqProofs (disch := omega) only [↓reduceIte, ↓gA, gB, refs, den, hasTy, Ty.cmp, Ty.depth, reduceCtorEq, Nat.reduceAdd, Nat.reduceSub, Nat.reduceMul, Nat.reduceEqDiff, Nat.reduceLT, Nat.reduceLeDiff, Nat.reduceMod, Nat.reduceDiv, Nat.reducePow, Nat.reduceBEq, Int.reduceToNat, Int.reduceLE, Int.reduceLT, Int.reduceEq, Int.reduceAdd, Int.reduceMul, Int.reduceSub, Int.reduceNeg, Int.reduceNe, Tryd.TS, Tryd.EV]
    rw [decide_eq_false (show ¬ x ≠ 1 by omega), Bool.false_and]
end Go.Proofs
/- Signatures: signing and verifying. -/
namespace Go.Proofs
open Go.SE

theorem setF_d {t a : Ty} {x y : D} {i : Nat} (h : t.subF i = some a) : SV.setF (.d t x) i (.d a y) = some (.d t (.l (x.list.set i y))) := by
  simp only [SV.setF, h, if_true]
theorem set_sg0 {x y z : D} : SV.setF (.d (.cons (.arr 4 (.int .u64)) (.cons (.arr 4 (.int .u64)) .nil)) (.l [x, y])) 0 (.d (.arr 4 (.int .u64)) z) = some (.d (.cons (.arr 4 (.int .u64)) (.cons (.arr 4 (.int .u64)) .nil)) (.l [z, y])) := setF_d rfl
theorem set_sg1 {x y z : D} : SV.setF (.d (.cons (.arr 4 (.int .u64)) (.cons (.arr 4 (.int .u64)) .nil)) (.l [x, y])) 1 (.d (.arr 4 (.int .u64)) z) = some (.d (.cons (.arr 4 (.int .u64)) (.cons (.arr 4 (.int .u64)) .nil)) (.l [x, z])) := setF_d rfl

/-- Public keys, and the error. -/
def pubN (x : Nat) : Nat := if secB x = true then 4 ^ x % 115792089237316195423570985008687907853269984665640564039457584007913129603823 else 0
def pubE (x : Nat) : Int := if secB x = true then 0 else 60
theorem pubN_lt (x : Nat) : pubN x < 115792089237316195423570985008687907853269984665640564039457584007913129639936 := by
  unfold pubN
  split
  · exact Nat.lt_trans (p4_lt x) (by omega)
  · omega

set_option maxHeartbeats 4000000 in
theorem spublic (x : Nat) (hx : x < 115792089237316195423570985008687907853269984665640564039457584007913129639936) : SCall Tryd.prog 12 [(.arr 4 (.int .u64), u256 x)] (fun rs => rs = [.d (.arr 4 (.int .u64)) (u256 (pubN x)), .d (.int .i64) (.n (pubE x))]) := by
  have c1 := ssecret x hx
  have c2 := gpower x hx
  unfold pubN pubE
  generalize 4 ^ x % 115792089237316195423570985008687907853269984665640564039457584007913129603823 = y at *
  generalize secB x = s at *
  refine scall_intro (n := 10) (rl := [.cell 2 45, .tmp 3]) (us := [45, 34]) Tryd.hT Tryd.func12 rfl rfl rfl rfl rfl (Nat.le_of_ble_eq_true rfl) ?_
  intro w0 hL0
  simp -dsimp -implicitDefEqProofs (disch := omega) only [↓reduceIte, ↓gA, gB, refs, den, hasTy, Ty.cmp, Ty.depth, reduceCtorEq, Nat.reduceAdd, Nat.reduceSub, Nat.reduceMul, Nat.reduceEqDiff, Nat.reduceLT, Nat.reduceLeDiff, Nat.reduceMod, Nat.reduceDiv, Nat.reducePow, Nat.reduceBEq, Int.reduceToNat, Int.reduceLE, Int.reduceLT, Int.reduceEq, Int.reduceAdd, Int.reduceMul, Int.reduceSub, Int.reduceNeg, Int.reduceNe, Tryd.TS, Tryd.EV, rep4]
  first | (with_reducible refine HCall_mono (c1) ?_; rintro rs rfl) | (with_reducible refine HCallF_mono (c1) (by first | rfl | simp [flatR, RV.flat, RV.isD, Ty.flat]) ?_) | (refine SCall.mono (c1) ?_; rintro rs rfl)
  rcases s with _ | _
  · simp -dsimp -implicitDefEqProofs (disch := omega) only [↓reduceIte, ↓gA, gB, refs, den, hasTy, Ty.cmp, Ty.depth, reduceCtorEq, Nat.reduceAdd, Nat.reduceSub, Nat.reduceMul, Nat.reduceEqDiff, Nat.reduceLT, Nat.reduceLeDiff, Nat.reduceMod, Nat.reduceDiv, Nat.reducePow, Nat.reduceBEq, Int.reduceToNat, Int.reduceLE, Int.reduceLT, Int.reduceEq, Int.reduceAdd, Int.reduceMul, Int.reduceSub, Int.reduceNeg, Int.reduceNe, Tryd.TS, Tryd.EV, rep4, u256_zero]
  · simp -dsimp -implicitDefEqProofs (disch := omega) only [↓reduceIte, ↓gA, gB, refs, den, hasTy, Ty.cmp, Ty.depth, reduceCtorEq, Nat.reduceAdd, Nat.reduceSub, Nat.reduceMul, Nat.reduceEqDiff, Nat.reduceLT, Nat.reduceLeDiff, Nat.reduceMod, Nat.reduceDiv, Nat.reducePow, Nat.reduceBEq, Int.reduceToNat, Int.reduceLE, Int.reduceLT, Int.reduceEq, Int.reduceAdd, Int.reduceMul, Int.reduceSub, Int.reduceNeg, Int.reduceNe, Tryd.TS, Tryd.EV, rep4]
    first | (with_reducible refine HCall_mono (c2) ?_; rintro rs rfl) | (with_reducible refine HCallF_mono (c2) (by first | rfl | simp [flatR, RV.flat, RV.isD, Ty.flat]) ?_) | (refine SCall.mono (c2) ?_; rintro rs rfl)
    simp -dsimp -implicitDefEqProofs (disch := omega) only [↓reduceIte, ↓gA, gB, refs, den, hasTy, Ty.cmp, Ty.depth, reduceCtorEq, Nat.reduceAdd, Nat.reduceSub, Nat.reduceMul, Nat.reduceEqDiff, Nat.reduceLT, Nat.reduceLeDiff, Nat.reduceMod, Nat.reduceDiv, Nat.reducePow, Nat.reduceBEq, Int.reduceToNat, Int.reduceLE, Int.reduceLT, Int.reduceEq, Int.reduceAdd, Int.reduceMul, Int.reduceSub, Int.reduceNeg, Int.reduceNe, Tryd.TS, Tryd.EV]

/-- A signature: its challenge and its response, and the error. -/
def sigC (x : Nat) (m : List D) : Nat := chal (4 ^ nonc x m % 115792089237316195423570985008687907853269984665640564039457584007913129603823) (pubN x) m
def sigR (x : Nat) (m : List D) : Nat := (nonc x m + sigC x m * x % 57896044618658097711785492504343953926634992332820282019728792003956564801911) % 57896044618658097711785492504343953926634992332820282019728792003956564801911

set_option maxHeartbeats 4000000 in
theorem ssign (x : Nat) (m : List D) (hx : x < 115792089237316195423570985008687907853269984665640564039457584007913129639936) (hm : BY m) (hml : m.length = 32) : SCall Tryd.prog 13 [(.arr 4 (.int .u64), u256 x), (.arr 32 (.int .u8), .l m)]
    (fun rs => rs = [.d (.cons (.arr 4 (.int .u64)) (.cons (.arr 4 (.int .u64)) .nil)) (if secB x = true then .l [u256 (sigC x m), u256 (sigR x m)] else .l [u256 0, u256 0]), .d (.int .i64) (.n (pubE x))]) := by
  have c1 := spublic x hx
  have hp := pubN_lt x
  have c2 := snonce x m hx hm hml
  have hn : nonc x m < 115792089237316195423570985008687907853269984665640564039457584007913129639936 := Nat.lt_trans (nonc_lt x m) (by omega)
  have c3 := gpower (nonc x m) hn
  have c4 := schallenge (4 ^ nonc x m % 115792089237316195423570985008687907853269984665640564039457584007913129603823) (pubN x) m (Nat.lt_trans (p4_lt _) (by omega)) hp hm hml
  have hc : sigC x m < 115792089237316195423570985008687907853269984665640564039457584007913129639936 := Nat.lt_trans (chal_lt _ _ _) (by omega)
  rw [show chal (4 ^ nonc x m % 115792089237316195423570985008687907853269984665640564039457584007913129603823) (pubN x) m = sigC x m from rfl] at c4
  have c5 := gmulScalar (sigC x m) x hc hx
  have c6 := gaddScalar (nonc x m) (sigC x m * x % 57896044618658097711785492504343953926634992332820282019728792003956564801911) hn (Nat.lt_trans (Nat.mod_lt _ (by omega)) (by omega))
  rw [show (nonc x m + sigC x m * x % 57896044618658097711785492504343953926634992332820282019728792003956564801911) % 57896044618658097711785492504343953926634992332820282019728792003956564801911 = sigR x m from rfl] at c6
  generalize 4 ^ nonc x m % 115792089237316195423570985008687907853269984665640564039457584007913129603823 = r at *
  generalize sigC x m * x % 57896044618658097711785492504343953926634992332820282019728792003956564801911 = v at *
  generalize sigR x m = z at *
  generalize sigC x m = c at *
  generalize nonc x m = k at *
  unfold pubE at *
  generalize pubN x = y at *
  generalize secB x = s at *
  refine scall_intro (n := 34) (rl := [.cell 4 50, .tmp 5]) (us := [50, 34]) Tryd.hT Tryd.func13 rfl rfl rfl rfl rfl (Nat.le_of_ble_eq_true rfl) ?_
  intro w0 hL0
  simp -dsimp -implicitDefEqProofs (disch := omega) only [↓reduceIte, ↓gA, gB, refs, den, hasTy, Ty.cmp, Ty.depth, reduceCtorEq, Nat.reduceAdd, Nat.reduceSub, Nat.reduceMul, Nat.reduceEqDiff, Nat.reduceLT, Nat.reduceLeDiff, Nat.reduceMod, Nat.reduceDiv, Nat.reducePow, Nat.reduceBEq, Int.reduceToNat, Int.reduceLE, Int.reduceLT, Int.reduceEq, Int.reduceAdd, Int.reduceMul, Int.reduceSub, Int.reduceNeg, Int.reduceNe, Tryd.TS, Tryd.EV, rep4]
  first | (with_reducible refine HCall_mono (c1) ?_; rintro rs rfl) | (with_reducible refine HCallF_mono (c1) (by first | rfl | simp [flatR, RV.flat, RV.isD, Ty.flat]) ?_) | (refine SCall.mono (c1) ?_; rintro rs rfl)
  rcases s with _ | _
  · simp -dsimp -implicitDefEqProofs (disch := omega) only [↓reduceIte, ↓gA, gB, refs, den, hasTy, Ty.cmp, Ty.depth, reduceCtorEq, Nat.reduceAdd, Nat.reduceSub, Nat.reduceMul, Nat.reduceEqDiff, Nat.reduceLT, Nat.reduceLeDiff, Nat.reduceMod, Nat.reduceDiv, Nat.reducePow, Nat.reduceBEq, Int.reduceToNat, Int.reduceLE, Int.reduceLT, Int.reduceEq, Int.reduceAdd, Int.reduceMul, Int.reduceSub, Int.reduceNeg, Int.reduceNe, Tryd.TS, Tryd.EV, rep4, u256_zero]
  · simp -dsimp -implicitDefEqProofs (disch := omega) only [↓reduceIte, ↓gA, gB, refs, den, hasTy, Ty.cmp, Ty.depth, reduceCtorEq, Nat.reduceAdd, Nat.reduceSub, Nat.reduceMul, Nat.reduceEqDiff, Nat.reduceLT, Nat.reduceLeDiff, Nat.reduceMod, Nat.reduceDiv, Nat.reducePow, Nat.reduceBEq, Int.reduceToNat, Int.reduceLE, Int.reduceLT, Int.reduceEq, Int.reduceAdd, Int.reduceMul, Int.reduceSub, Int.reduceNeg, Int.reduceNe, Tryd.TS, Tryd.EV, rep4]
    first | (with_reducible refine HCall_mono (c2) ?_; rintro rs rfl) | (with_reducible refine HCallF_mono (c2) (by first | rfl | simp [flatR, RV.flat, RV.isD, Ty.flat]) ?_) | (refine SCall.mono (c2) ?_; rintro rs rfl)
    simp -dsimp -implicitDefEqProofs (disch := omega) only [↓reduceIte, ↓gA, gB, refs, den, hasTy, Ty.cmp, Ty.depth, reduceCtorEq, Nat.reduceAdd, Nat.reduceSub, Nat.reduceMul, Nat.reduceEqDiff, Nat.reduceLT, Nat.reduceLeDiff, Nat.reduceMod, Nat.reduceDiv, Nat.reducePow, Nat.reduceBEq, Int.reduceToNat, Int.reduceLE, Int.reduceLT, Int.reduceEq, Int.reduceAdd, Int.reduceMul, Int.reduceSub, Int.reduceNeg, Int.reduceNe, Tryd.TS, Tryd.EV, rep4]
    refine sdrawM Tryd.hT (by kernel_rfl) [6] [1, 4] (.alt 0 (.alt 2 (.alt 3 (.alt 1 (.alt 4 (.alt 5 (.alt 6 .nil .nil) .nil) .nil) .nil) .nil) .nil) .nil) ⟨34, [(2, .v (.ptr 0 [])), (4, .v (.ptr 2 [])), (8, .v (.ptr 7 [])), (9, .v (.ptr 8 []))], [(0, ⟨.arr 4 (.int .u64), .d (.arr 4 (.int .u64)) (u256 x)⟩), (2, ⟨.cons (.arr 4 (.int .u64)) (.cons (.arr 4 (.int .u64)) .nil), .d (.cons (.arr 4 (.int .u64)) (.cons (.arr 4 (.int .u64)) .nil)) (.l [.l [.n 0, .n 0, .n 0, .n 0], .l [.n 0, .n 0, .n 0, .n 0]])⟩), (7, ⟨.arr 4 (.int .u64), .d (.arr 4 (.int .u64)) (u256 k)⟩), (8, ⟨.arr 4 (.int .u64), .d (.arr 4 (.int .u64)) (u256 c)⟩)], 9⟩ (by kernel_rfl) (by kernel_rfl) ?_ ?_
    · simp only [tr_alt, tr_nil, tr_nil', gK, ↓reduceIte, Nat.reduceEqDiff]
      simp -dsimp -implicitDefEqProofs (disch := omega) only [↓reduceIte, ↓gA, gB, refs, den, hasTy, Ty.cmp, Ty.depth, reduceCtorEq, Nat.reduceAdd, Nat.reduceSub, Nat.reduceMul, Nat.reduceEqDiff, Nat.reduceLT, Nat.reduceLeDiff, Nat.reduceMod, Nat.reduceDiv, Nat.reducePow, Nat.reduceBEq, Int.reduceToNat, Int.reduceLE, Int.reduceLT, Int.reduceEq, Int.reduceAdd, Int.reduceMul, Int.reduceSub, Int.reduceNeg, Int.reduceNe, Tryd.TS, Tryd.EV, rep4]
      repeat' (first
        | with_reducible refine And.intro ?_ ?_
        | (first | (with_reducible refine HCall_mono (c3) ?_; rintro rs rfl) | (with_reducible refine HCallF_mono (c3) (by first | rfl | simp [flatR, RV.flat, RV.isD, Ty.flat]) ?_)
           simp -dsimp -implicitDefEqProofs (disch := omega) only [↓reduceIte, ↓gA, gB, refs, den, hasTy, Ty.cmp, Ty.depth, reduceCtorEq, Nat.reduceAdd, Nat.reduceSub, Nat.reduceMul, Nat.reduceEqDiff, Nat.reduceLT, Nat.reduceLeDiff, Nat.reduceMod, Nat.reduceDiv, Nat.reducePow, Nat.reduceBEq, Int.reduceToNat, Int.reduceLE, Int.reduceLT, Int.reduceEq, Int.reduceAdd, Int.reduceMul, Int.reduceSub, Int.reduceNeg, Int.reduceNe, Tryd.TS, Tryd.EV, rep4])
        | (first | (with_reducible refine HCall_mono (c4) ?_; rintro rs rfl) | (with_reducible refine HCallF_mono (c4) (by first | rfl | simp [flatR, RV.flat, RV.isD, Ty.flat]) ?_)
           simp -dsimp -implicitDefEqProofs (disch := omega) only [↓reduceIte, ↓gA, gB, refs, den, hasTy, Ty.cmp, Ty.depth, reduceCtorEq, Nat.reduceAdd, Nat.reduceSub, Nat.reduceMul, Nat.reduceEqDiff, Nat.reduceLT, Nat.reduceLeDiff, Nat.reduceMod, Nat.reduceDiv, Nat.reducePow, Nat.reduceBEq, Int.reduceToNat, Int.reduceLE, Int.reduceLT, Int.reduceEq, Int.reduceAdd, Int.reduceMul, Int.reduceSub, Int.reduceNeg, Int.reduceNe, Tryd.TS, Tryd.EV, rep4])
        | with_reducible exact True.intro
        | (first | (refine sub_ren w0 hL0 [(0, 0), (1, 1), (2, 2), (3, 3), (4, 4), (5, 5), (6, 6), (7, 7), (8, 10)] rfl rfl ?_ rfl ?_ ?_; (focus (simp [keysLt]; done)); (focus (simp [renTm, Go.SE.look, renTV, renSV]; done)); (focus (simp [renOb, Go.SE.look, renSV]; done)))))
    simp -dsimp -implicitDefEqProofs (disch := omega) only [↓reduceIte, ↓gA, gB, refs, den, hasTy, Ty.cmp, Ty.depth, reduceCtorEq, Nat.reduceAdd, Nat.reduceSub, Nat.reduceMul, Nat.reduceEqDiff, Nat.reduceLT, Nat.reduceLeDiff, Nat.reduceMod, Nat.reduceDiv, Nat.reducePow, Nat.reduceBEq, Int.reduceToNat, Int.reduceLE, Int.reduceLT, Int.reduceEq, Int.reduceAdd, Int.reduceMul, Int.reduceSub, Int.reduceNeg, Int.reduceNe, Tryd.TS, Tryd.EV, rep4]
    refine sdraw (id := 6) Tryd.hT (by kernel_rfl) [7] [] [0, 1, 2, 3, 4, 5, 6, 7, 8] (by kernel_rfl) (by kernel_rfl) (by kernel_rfl) ?_; simp only [gK, ↓reduceIte, Nat.reduceEqDiff]
    simp -dsimp -implicitDefEqProofs (disch := omega) only [↓reduceIte, ↓gA, gB, refs, den, hasTy, Ty.cmp, Ty.depth, reduceCtorEq, Nat.reduceAdd, Nat.reduceSub, Nat.reduceMul, Nat.reduceEqDiff, Nat.reduceLT, Nat.reduceLeDiff, Nat.reduceMod, Nat.reduceDiv, Nat.reducePow, Nat.reduceBEq, Int.reduceToNat, Int.reduceLE, Int.reduceLT, Int.reduceEq, Int.reduceAdd, Int.reduceMul, Int.reduceSub, Int.reduceNeg, Int.reduceNe, Tryd.TS, Tryd.EV, rep4]
    first | (with_reducible refine HCall_mono (c5) ?_; rintro rs rfl) | (with_reducible refine HCallF_mono (c5) (by first | rfl | simp [flatR, RV.flat, RV.isD, Ty.flat]) ?_) | (refine SCall.mono (c5) ?_; rintro rs rfl)
    simp -dsimp -implicitDefEqProofs (disch := omega) only [↓reduceIte, ↓gA, gB, refs, den, hasTy, Ty.cmp, Ty.depth, reduceCtorEq, Nat.reduceAdd, Nat.reduceSub, Nat.reduceMul, Nat.reduceEqDiff, Nat.reduceLT, Nat.reduceLeDiff, Nat.reduceMod, Nat.reduceDiv, Nat.reducePow, Nat.reduceBEq, Int.reduceToNat, Int.reduceLE, Int.reduceLT, Int.reduceEq, Int.reduceAdd, Int.reduceMul, Int.reduceSub, Int.reduceNeg, Int.reduceNe, Tryd.TS, Tryd.EV]
    first | (with_reducible refine HCall_mono (c6) ?_; rintro rs rfl) | (with_reducible refine HCallF_mono (c6) (by first | rfl | simp [flatR, RV.flat, RV.isD, Ty.flat]) ?_) | (refine SCall.mono (c6) ?_; rintro rs rfl)
    simp -dsimp -implicitDefEqProofs (disch := omega) only [↓reduceIte, ↓gA, gB, refs, den, hasTy, Ty.cmp, Ty.depth, reduceCtorEq, Nat.reduceAdd, Nat.reduceSub, Nat.reduceMul, Nat.reduceEqDiff, Nat.reduceLT, Nat.reduceLeDiff, Nat.reduceMod, Nat.reduceDiv, Nat.reducePow, Nat.reduceBEq, Int.reduceToNat, Int.reduceLE, Int.reduceLT, Int.reduceEq, Int.reduceAdd, Int.reduceMul, Int.reduceSub, Int.reduceNeg, Int.reduceNe, Tryd.TS, Tryd.EV, set_sg0, set_sg1]

/-- Whether a signature is verified. -/
def verB (q x : Nat) (m : List D) (c z : Nat) : Bool := valB q x && (decide (c < 57896044618658097711785492504343953926634992332820282019728792003956564801911) && (decide (z < 57896044618658097711785492504343953926634992332820282019728792003956564801911) && decide (c = chal (4 ^ z % 115792089237316195423570985008687907853269984665640564039457584007913129603823 * (x ^ ngq c % 115792089237316195423570985008687907853269984665640564039457584007913129603823) % 115792089237316195423570985008687907853269984665640564039457584007913129603823) x m)))

set_option maxHeartbeats 4000000 in
theorem sverify (x q c z : Nat) (m : List D) (hx : x < 115792089237316195423570985008687907853269984665640564039457584007913129639936) (hc : c < 115792089237316195423570985008687907853269984665640564039457584007913129639936) (hz : z < 115792089237316195423570985008687907853269984665640564039457584007913129639936) (hm : BY m) (hml : m.length = 32) (hq : q = 57896044618658097711785492504343953926634992332820282019728792003956564801911) : SCall Tryd.prog 17 [(.arr 4 (.int .u64), u256 x), (.arr 32 (.int .u8), .l m), (.cons (.arr 4 (.int .u64)) (.cons (.arr 4 (.int .u64)) .nil), .l [u256 c, u256 z])]
    (fun rs => rs = [.d .bool (.b (verB q x m c z))]) := by
  have c1 := svalid x q hx hq
  have c2 := sscalar c hc
  have c3 := sscalar z hz
  have c4 := gpower z hz
  have c5 := gnegScalar c hc
  have hn : ngq c < 115792089237316195423570985008687907853269984665640564039457584007913129639936 := Nat.lt_trans (ngq_lt c) (by omega)
  have c6 := gexp x (ngq c) hx hn
  have l1 : 4 ^ z % 115792089237316195423570985008687907853269984665640564039457584007913129603823 < 115792089237316195423570985008687907853269984665640564039457584007913129639936 := Nat.lt_trans (p4_lt z) (by omega)
  have l2 : x ^ ngq c % 115792089237316195423570985008687907853269984665640564039457584007913129603823 < 115792089237316195423570985008687907853269984665640564039457584007913129639936 := Nat.lt_trans (Nat.mod_lt _ (by omega)) (show 115792089237316195423570985008687907853269984665640564039457584007913129603823 < 115792089237316195423570985008687907853269984665640564039457584007913129639936 by omega)
  have c7 := gmul (4 ^ z % 115792089237316195423570985008687907853269984665640564039457584007913129603823) (x ^ ngq c % 115792089237316195423570985008687907853269984665640564039457584007913129603823) l1 l2
  have l3 : 4 ^ z % 115792089237316195423570985008687907853269984665640564039457584007913129603823 * (x ^ ngq c % 115792089237316195423570985008687907853269984665640564039457584007913129603823) % 115792089237316195423570985008687907853269984665640564039457584007913129603823 < 115792089237316195423570985008687907853269984665640564039457584007913129639936 := Nat.lt_trans (Nat.mod_lt _ (by omega)) (show 115792089237316195423570985008687907853269984665640564039457584007913129603823 < 115792089237316195423570985008687907853269984665640564039457584007913129639936 by omega)
  have c8 := schallenge (4 ^ z % 115792089237316195423570985008687907853269984665640564039457584007913129603823 * (x ^ ngq c % 115792089237316195423570985008687907853269984665640564039457584007913129603823) % 115792089237316195423570985008687907853269984665640564039457584007913129603823) x m l3 hx hm hml
  have l4 : chal (4 ^ z % 115792089237316195423570985008687907853269984665640564039457584007913129603823 * (x ^ ngq c % 115792089237316195423570985008687907853269984665640564039457584007913129603823) % 115792089237316195423570985008687907853269984665640564039457584007913129603823) x m < 115792089237316195423570985008687907853269984665640564039457584007913129639936 := Nat.lt_trans (chal_lt _ _ _) (by omega)
  unfold verB
  generalize chal (4 ^ z % 115792089237316195423570985008687907853269984665640564039457584007913129603823 * (x ^ ngq c % 115792089237316195423570985008687907853269984665640564039457584007913129603823) % 115792089237316195423570985008687907853269984665640564039457584007913129603823) x m = e at *
  generalize 4 ^ z % 115792089237316195423570985008687907853269984665640564039457584007913129603823 * (x ^ ngq c % 115792089237316195423570985008687907853269984665640564039457584007913129603823) % 115792089237316195423570985008687907853269984665640564039457584007913129603823 = w at *
  generalize x ^ ngq c % 115792089237316195423570985008687907853269984665640564039457584007913129603823 = u at *
  generalize 4 ^ z % 115792089237316195423570985008687907853269984665640564039457584007913129603823 = t at *
  generalize ngq c = n at *
  generalize valB q x = b1 at *
  generalize decide (c < 57896044618658097711785492504343953926634992332820282019728792003956564801911) = b2 at *
  generalize decide (z < 57896044618658097711785492504343953926634992332820282019728792003956564801911) = b3 at *
  refine scall_intro (n := 39) (rl := [.tmp 6]) (us := [4]) Tryd.hT Tryd.func17 rfl rfl rfl rfl rfl (Nat.le_of_ble_eq_true rfl) ?_
  intro w0 hL0
  simp -dsimp -implicitDefEqProofs (disch := omega) only [↓reduceIte, ↓gA, gB, refs, den, hasTy, Ty.cmp, Ty.depth, reduceCtorEq, Nat.reduceAdd, Nat.reduceSub, Nat.reduceMul, Nat.reduceEqDiff, Nat.reduceLT, Nat.reduceLeDiff, Nat.reduceMod, Nat.reduceDiv, Nat.reducePow, Nat.reduceBEq, Int.reduceToNat, Int.reduceLE, Int.reduceLT, Int.reduceEq, Int.reduceAdd, Int.reduceMul, Int.reduceSub, Int.reduceNeg, Int.reduceNe, Tryd.TS, Tryd.EV, rep4]
  first | (with_reducible refine HCall_mono (c1) ?_; rintro rs rfl) | (with_reducible refine HCallF_mono (c1) (by first | rfl | simp [flatR, RV.flat, RV.isD, Ty.flat]) ?_) | (refine SCall.mono (c1) ?_; rintro rs rfl)
  rcases b1 with _ | _
  · simp -dsimp -implicitDefEqProofs (disch := omega) only [↓reduceIte, ↓gA, gB, refs, den, hasTy, Ty.cmp, Ty.depth, reduceCtorEq, Nat.reduceAdd, Nat.reduceSub, Nat.reduceMul, Nat.reduceEqDiff, Nat.reduceLT, Nat.reduceLeDiff, Nat.reduceMod, Nat.reduceDiv, Nat.reducePow, Nat.reduceBEq, Int.reduceToNat, Int.reduceLE, Int.reduceLT, Int.reduceEq, Int.reduceAdd, Int.reduceMul, Int.reduceSub, Int.reduceNeg, Int.reduceNe, Tryd.TS, Tryd.EV]
  · simp -dsimp -implicitDefEqProofs (disch := omega) only [↓reduceIte, ↓gA, gB, refs, den, hasTy, Ty.cmp, Ty.depth, reduceCtorEq, Nat.reduceAdd, Nat.reduceSub, Nat.reduceMul, Nat.reduceEqDiff, Nat.reduceLT, Nat.reduceLeDiff, Nat.reduceMod, Nat.reduceDiv, Nat.reducePow, Nat.reduceBEq, Int.reduceToNat, Int.reduceLE, Int.reduceLT, Int.reduceEq, Int.reduceAdd, Int.reduceMul, Int.reduceSub, Int.reduceNeg, Int.reduceNe, Tryd.TS, Tryd.EV]
    first | (with_reducible refine HCall_mono (c2) ?_; rintro rs rfl) | (with_reducible refine HCallF_mono (c2) (by first | rfl | simp [flatR, RV.flat, RV.isD, Ty.flat]) ?_) | (refine SCall.mono (c2) ?_; rintro rs rfl)
    rcases b2 with _ | _
    · simp -dsimp -implicitDefEqProofs (disch := omega) only [↓reduceIte, ↓gA, gB, refs, den, hasTy, Ty.cmp, Ty.depth, reduceCtorEq, Nat.reduceAdd, Nat.reduceSub, Nat.reduceMul, Nat.reduceEqDiff, Nat.reduceLT, Nat.reduceLeDiff, Nat.reduceMod, Nat.reduceDiv, Nat.reducePow, Nat.reduceBEq, Int.reduceToNat, Int.reduceLE, Int.reduceLT, Int.reduceEq, Int.reduceAdd, Int.reduceMul, Int.reduceSub, Int.reduceNeg, Int.reduceNe, Tryd.TS, Tryd.EV]
    · simp -dsimp -implicitDefEqProofs (disch := omega) only [↓reduceIte, ↓gA, gB, refs, den, hasTy, Ty.cmp, Ty.depth, reduceCtorEq, Nat.reduceAdd, Nat.reduceSub, Nat.reduceMul, Nat.reduceEqDiff, Nat.reduceLT, Nat.reduceLeDiff, Nat.reduceMod, Nat.reduceDiv, Nat.reducePow, Nat.reduceBEq, Int.reduceToNat, Int.reduceLE, Int.reduceLT, Int.reduceEq, Int.reduceAdd, Int.reduceMul, Int.reduceSub, Int.reduceNeg, Int.reduceNe, Tryd.TS, Tryd.EV]
      first | (with_reducible refine HCall_mono (c3) ?_; rintro rs rfl) | (with_reducible refine HCallF_mono (c3) (by first | rfl | simp [flatR, RV.flat, RV.isD, Ty.flat]) ?_) | (refine SCall.mono (c3) ?_; rintro rs rfl)
      rcases b3 with _ | _
      · simp -dsimp -implicitDefEqProofs (disch := omega) only [↓reduceIte, ↓gA, gB, refs, den, hasTy, Ty.cmp, Ty.depth, reduceCtorEq, Nat.reduceAdd, Nat.reduceSub, Nat.reduceMul, Nat.reduceEqDiff, Nat.reduceLT, Nat.reduceLeDiff, Nat.reduceMod, Nat.reduceDiv, Nat.reducePow, Nat.reduceBEq, Int.reduceToNat, Int.reduceLE, Int.reduceLT, Int.reduceEq, Int.reduceAdd, Int.reduceMul, Int.reduceSub, Int.reduceNeg, Int.reduceNe, Tryd.TS, Tryd.EV]
      · simp -dsimp -implicitDefEqProofs (disch := omega) only [↓reduceIte, ↓gA, gB, refs, den, hasTy, Ty.cmp, Ty.depth, reduceCtorEq, Nat.reduceAdd, Nat.reduceSub, Nat.reduceMul, Nat.reduceEqDiff, Nat.reduceLT, Nat.reduceLeDiff, Nat.reduceMod, Nat.reduceDiv, Nat.reducePow, Nat.reduceBEq, Int.reduceToNat, Int.reduceLE, Int.reduceLT, Int.reduceEq, Int.reduceAdd, Int.reduceMul, Int.reduceSub, Int.reduceNeg, Int.reduceNe, Tryd.TS, Tryd.EV, rep4]
        refine sdrawM Tryd.hT (by kernel_rfl) [10] [2, 6, 7, 8] (.alt 0 (.alt 1 (.alt 3 (.alt 4 (.alt 5 (.alt 2 (.alt 6 (.alt 7 (.alt 8 (.alt 9 (.alt 10 .nil .nil) .nil) .nil) .nil) .nil) .nil) .nil) .nil) .nil) .nil) .nil) ⟨39, [(3, .v (.ptr 0 [])), (4, .v (.ptr 1 [])), (5, .v (.ptr 2 [])), (6, .v (.d .bool (.b false))), (7, .v (.ptr 6 []))], [(0, ⟨.arr 4 (.int .u64), .d (.arr 4 (.int .u64)) (u256 x)⟩), (1, ⟨.arr 32 (.int .u8), .d (.arr 32 (.int .u8)) (.l m)⟩), (2, ⟨.cons (.arr 4 (.int .u64)) (.cons (.arr 4 (.int .u64)) .nil), .d (.cons (.arr 4 (.int .u64)) (.cons (.arr 4 (.int .u64)) .nil)) (.l [u256 c, u256 z])⟩), (6, ⟨.arr 4 (.int .u64), .d (.arr 4 (.int .u64)) (u256 w)⟩)], 7⟩ (by kernel_rfl) (by kernel_rfl) ?_ ?_
        · simp only [tr_alt, tr_nil, tr_nil', gK, ↓reduceIte, Nat.reduceEqDiff]
          simp -dsimp -implicitDefEqProofs (disch := omega) only [↓reduceIte, ↓gA, gB, refs, den, hasTy, Ty.cmp, Ty.depth, reduceCtorEq, Nat.reduceAdd, Nat.reduceSub, Nat.reduceMul, Nat.reduceEqDiff, Nat.reduceLT, Nat.reduceLeDiff, Nat.reduceMod, Nat.reduceDiv, Nat.reducePow, Nat.reduceBEq, Int.reduceToNat, Int.reduceLE, Int.reduceLT, Int.reduceEq, Int.reduceAdd, Int.reduceMul, Int.reduceSub, Int.reduceNeg, Int.reduceNe, Tryd.TS, Tryd.EV, rep4]
          repeat' (first
            | with_reducible refine And.intro ?_ ?_
            | (first | (with_reducible refine HCall_mono (c4) ?_; rintro rs rfl) | (with_reducible refine HCallF_mono (c4) (by first | rfl | simp [flatR, RV.flat, RV.isD, Ty.flat]) ?_)
               simp -dsimp -implicitDefEqProofs (disch := omega) only [↓reduceIte, ↓gA, gB, refs, den, hasTy, Ty.cmp, Ty.depth, reduceCtorEq, Nat.reduceAdd, Nat.reduceSub, Nat.reduceMul, Nat.reduceEqDiff, Nat.reduceLT, Nat.reduceLeDiff, Nat.reduceMod, Nat.reduceDiv, Nat.reducePow, Nat.reduceBEq, Int.reduceToNat, Int.reduceLE, Int.reduceLT, Int.reduceEq, Int.reduceAdd, Int.reduceMul, Int.reduceSub, Int.reduceNeg, Int.reduceNe, Tryd.TS, Tryd.EV, rep4])
            | (first | (with_reducible refine HCall_mono (c5) ?_; rintro rs rfl) | (with_reducible refine HCallF_mono (c5) (by first | rfl | simp [flatR, RV.flat, RV.isD, Ty.flat]) ?_)
               simp -dsimp -implicitDefEqProofs (disch := omega) only [↓reduceIte, ↓gA, gB, refs, den, hasTy, Ty.cmp, Ty.depth, reduceCtorEq, Nat.reduceAdd, Nat.reduceSub, Nat.reduceMul, Nat.reduceEqDiff, Nat.reduceLT, Nat.reduceLeDiff, Nat.reduceMod, Nat.reduceDiv, Nat.reducePow, Nat.reduceBEq, Int.reduceToNat, Int.reduceLE, Int.reduceLT, Int.reduceEq, Int.reduceAdd, Int.reduceMul, Int.reduceSub, Int.reduceNeg, Int.reduceNe, Tryd.TS, Tryd.EV, rep4])
            | (first | (with_reducible refine HCall_mono (c6) ?_; rintro rs rfl) | (with_reducible refine HCallF_mono (c6) (by first | rfl | simp [flatR, RV.flat, RV.isD, Ty.flat]) ?_)
               simp -dsimp -implicitDefEqProofs (disch := omega) only [↓reduceIte, ↓gA, gB, refs, den, hasTy, Ty.cmp, Ty.depth, reduceCtorEq, Nat.reduceAdd, Nat.reduceSub, Nat.reduceMul, Nat.reduceEqDiff, Nat.reduceLT, Nat.reduceLeDiff, Nat.reduceMod, Nat.reduceDiv, Nat.reducePow, Nat.reduceBEq, Int.reduceToNat, Int.reduceLE, Int.reduceLT, Int.reduceEq, Int.reduceAdd, Int.reduceMul, Int.reduceSub, Int.reduceNeg, Int.reduceNe, Tryd.TS, Tryd.EV, rep4])
            | (first | (with_reducible refine HCall_mono (c7) ?_; rintro rs rfl) | (with_reducible refine HCallF_mono (c7) (by first | rfl | simp [flatR, RV.flat, RV.isD, Ty.flat]) ?_)
               simp -dsimp -implicitDefEqProofs (disch := omega) only [↓reduceIte, ↓gA, gB, refs, den, hasTy, Ty.cmp, Ty.depth, reduceCtorEq, Nat.reduceAdd, Nat.reduceSub, Nat.reduceMul, Nat.reduceEqDiff, Nat.reduceLT, Nat.reduceLeDiff, Nat.reduceMod, Nat.reduceDiv, Nat.reducePow, Nat.reduceBEq, Int.reduceToNat, Int.reduceLE, Int.reduceLT, Int.reduceEq, Int.reduceAdd, Int.reduceMul, Int.reduceSub, Int.reduceNeg, Int.reduceNe, Tryd.TS, Tryd.EV, rep4])
            | with_reducible exact True.intro
            | (first | (refine sub_ren w0 hL0 [(0, 0), (1, 1), (2, 2), (3, 3), (4, 4), (5, 5), (6, 10)] rfl rfl ?_ rfl ?_ ?_; (focus (simp [keysLt]; done)); (focus (simp [renTm, Go.SE.look, renTV, renSV]; done)); (focus (simp [renOb, Go.SE.look, renSV]; done)))))
        simp -dsimp -implicitDefEqProofs (disch := omega) only [↓reduceIte, ↓gA, gB, refs, den, hasTy, Ty.cmp, Ty.depth, reduceCtorEq, Nat.reduceAdd, Nat.reduceSub, Nat.reduceMul, Nat.reduceEqDiff, Nat.reduceLT, Nat.reduceLeDiff, Nat.reduceMod, Nat.reduceDiv, Nat.reducePow, Nat.reduceBEq, Int.reduceToNat, Int.reduceLE, Int.reduceLT, Int.reduceEq, Int.reduceAdd, Int.reduceMul, Int.reduceSub, Int.reduceNeg, Int.reduceNe, Tryd.TS, Tryd.EV, rep4]
        refine sdraw (id := 4) Tryd.hT (by kernel_rfl) [] [] [0, 1, 2, 3, 4, 5, 6, 7] (by kernel_rfl) (by kernel_rfl) (by kernel_rfl) ?_; simp only [gK, ↓reduceIte, Nat.reduceEqDiff]
        simp -dsimp -implicitDefEqProofs (disch := omega) only [↓reduceIte, ↓gA, gB, refs, den, hasTy, Ty.cmp, Ty.depth, reduceCtorEq, Nat.reduceAdd, Nat.reduceSub, Nat.reduceMul, Nat.reduceEqDiff, Nat.reduceLT, Nat.reduceLeDiff, Nat.reduceMod, Nat.reduceDiv, Nat.reducePow, Nat.reduceBEq, Int.reduceToNat, Int.reduceLE, Int.reduceLT, Int.reduceEq, Int.reduceAdd, Int.reduceMul, Int.reduceSub, Int.reduceNeg, Int.reduceNe, Tryd.TS, Tryd.EV]
        first | (with_reducible refine HCall_mono (c8) ?_; rintro rs rfl) | (with_reducible refine HCallF_mono (c8) (by first | rfl | simp [flatR, RV.flat, RV.isD, Ty.flat]) ?_) | (refine SCall.mono (c8) ?_; rintro rs rfl)
        simp -dsimp -implicitDefEqProofs (disch := omega) only [↓reduceIte, ↓gA, gB, refs, den, hasTy, Ty.cmp, Ty.depth, reduceCtorEq, Nat.reduceAdd, Nat.reduceSub, Nat.reduceMul, Nat.reduceEqDiff, Nat.reduceLT, Nat.reduceLeDiff, Nat.reduceMod, Nat.reduceDiv, Nat.reducePow, Nat.reduceBEq, Int.reduceToNat, Int.reduceLE, Int.reduceLT, Int.reduceEq, Int.reduceAdd, Int.reduceMul, Int.reduceSub, Int.reduceNeg, Int.reduceNe, Tryd.TS, Tryd.EV, u256_inj hc l4]
end Go.Proofs
/- Signatures: the plain law. -/
namespace Go.Proofs
open Go.SE

theorem p4_one {s : Nat} (h0 : 0 < s) (hs : s < 57896044618658097711785492504343953926634992332820282019728792003956564801911) : 4 ^ s % 115792089237316195423570985008687907853269984665640564039457584007913129603823 ≠ 1 := by
  intro h
  obtain ⟨q, hq⟩ : ∃ q : Nat, q = 57896044618658097711785492504343953926634992332820282019728792003956564801911 := ⟨_, rfl⟩
  have hp : Nt.Pr q := by rw [hq]; exact Nt.pr6
  have h1 := Nt.pow_gcd (d := 115792089237316195423570985008687907853269984665640564039457584007913129603823) (a := 4) s q (by rw [h]) (by rw [four_q hq])
  have hg : Nat.gcd s q = 1 := by
    rcases hp.2 _ (Nat.gcd_dvd_right s q) with e | e
    · exact e
    · have h2 := Nat.le_of_dvd h0 (Nat.gcd_dvd_left s q)
      rw [e] at h2
      omega
  rw [hg] at h1
  simp at h1
theorem p4_inj' {a b : Nat} (hab : a ≤ b) (hb : b < 57896044618658097711785492504343953926634992332820282019728792003956564801911) (h : 4 ^ a % 115792089237316195423570985008687907853269984665640564039457584007913129603823 = 4 ^ b % 115792089237316195423570985008687907853269984665640564039457584007913129603823) : a = b := by
  rcases Nat.eq_or_lt_of_le hab with e | hlt
  · exact e
  exfalso
  have e : 4 ^ b = 4 ^ a * 4 ^ (b - a) := by rw [← Nat.pow_add]; congr 1; omega
  have hpos : 1 ≤ 4 ^ (b - a) := Nat.pow_pos (by omega)
  obtain ⟨q, hq⟩ : ∃ q : Nat, q = 57896044618658097711785492504343953926634992332820282019728792003956564801911 := ⟨_, rfl⟩
  have hna := p4_ne hq a
  refine p4_one (s := b - a) (by omega) (by omega) ?_
  rw [e] at h
  generalize 4 ^ a = u at *
  generalize 4 ^ (b - a) = v at *
  have hd : 115792089237316195423570985008687907853269984665640564039457584007913129603823 ∣ u * (v - 1) := by
    have h2 : u * (v - 1) + u = u * v := by rw [← Nat.mul_succ]; congr 1; omega
    generalize u * (v - 1) = k at *
    generalize u * v = l at *
    omega
  rcases Nt.pr7.dvd_mul hd with h3 | h3
  · exact absurd (Nat.mod_eq_zero_of_dvd h3) hna
  · have : Nt.thePrime = 115792089237316195423570985008687907853269984665640564039457584007913129603823 := rfl
    rw [this] at h3
    omega
theorem p4_inj {a b : Nat} (ha : a < 57896044618658097711785492504343953926634992332820282019728792003956564801911) (hb : b < 57896044618658097711785492504343953926634992332820282019728792003956564801911) (h : 4 ^ a % 115792089237316195423570985008687907853269984665640564039457584007913129603823 = 4 ^ b % 115792089237316195423570985008687907853269984665640564039457584007913129603823) : a = b := by
  rcases Nat.le_total a b with h1 | h1
  · exact p4_inj' h1 hb h
  · exact (p4_inj' h1 ha h.symm).symm

/-- The public key of a secret is valid. -/
theorem val_pub {q s : Nat} (hq : q = 57896044618658097711785492504343953926634992332820282019728792003956564801911) (hs : secB s = true) : valB q (pubN s) = true := by
  unfold secB at hs
  simp only [Bool.and_eq_true, decide_eq_true_eq] at hs
  unfold valB pubN
  rw [if_pos (by unfold secB; simp only [Bool.and_eq_true, decide_eq_true_eq]; exact hs), p4_mem hq, Bool.and_true, decide_eq_true]
  exact p4_one (by omega) hs.2
/-- The commitment that a signature leads to, as a power. -/
theorem com_pow {q s c z : Nat} (hq : q = 57896044618658097711785492504343953926634992332820282019728792003956564801911) (hs : secB s = true) : 4 ^ z % 115792089237316195423570985008687907853269984665640564039457584007913129603823 * (pubN s ^ ngq c % 115792089237316195423570985008687907853269984665640564039457584007913129603823) % 115792089237316195423570985008687907853269984665640564039457584007913129603823 = 4 ^ ((z + s * ngq c) % q) % 115792089237316195423570985008687907853269984665640564039457584007913129603823 := by
  unfold pubN
  rw [if_pos hs, p4_pow, p4_mul, p4_mod hq]
theorem ngq_sum2 (s : Nat) : (s + ngq s) % 57896044618658097711785492504343953926634992332820282019728792003956564801911 = 0 := by unfold ngq; omega
theorem sig_exp {q k c s : Nat} (hq : q = 57896044618658097711785492504343953926634992332820282019728792003956564801911) (hk : k < q) : ((k + c * s % 57896044618658097711785492504343953926634992332820282019728792003956564801911) % 57896044618658097711785492504343953926634992332820282019728792003956564801911 + s * ngq c) % q = k := by
  have h1 := ngq_sum2 c
  rw [← hq] at *
  obtain ⟨j, hj⟩ : ∃ j, c + ngq c = q * j := ⟨(c + ngq c) / q, by rw [Nat.mul_div_cancel' (Nat.dvd_of_mod_eq_zero h1)]⟩
  have e : k + c * s + s * ngq c = k + q * (s * j) := by
    rw [Nat.add_assoc, Nat.mul_comm c s, ← Nat.mul_add, hj, Nat.mul_left_comm]
  rw [Nat.add_mod, Nat.mod_mod, ← Nat.add_mod, show k + c * s % q + s * ngq c = (k + s * ngq c) + c * s % q by omega, Nat.add_mod, Nat.mod_mod, ← Nat.add_mod, show k + s * ngq c + c * s = k + c * s + s * ngq c by omega, e, Nat.add_mul_mod_self_left, Nat.mod_eq_of_lt hk]
theorem sigC_lt (s : Nat) (m : List D) : sigC s m < 57896044618658097711785492504343953926634992332820282019728792003956564801911 := chal_lt _ _ _
theorem sigR_lt (s : Nat) (m : List D) : sigR s m < 57896044618658097711785492504343953926634992332820282019728792003956564801911 := Nat.mod_lt _ (by omega)
/-- What a secret signs is verified by its public key. -/
theorem ver_sig {q s : Nat} (m : List D) (hq : q = 57896044618658097711785492504343953926634992332820282019728792003956564801911) (hs : secB s = true) : verB q (pubN s) m (sigC s m) (sigR s m) = true := by
  unfold verB
  rw [val_pub hq hs, decide_eq_true (sigC_lt s m), decide_eq_true (sigR_lt s m), com_pow hq hs]
  have : (sigR s m + s * ngq (sigC s m)) % q = nonc s m := sig_exp hq (by rw [hq]; exact nonc_lt s m)
  rw [this]
  simp only [Bool.true_and, decide_eq_true_eq]
  rfl
/-- Two responses to one challenge lead to two commitments. -/
theorem com_ne {q s c z z2 : Nat} (hq : q = 57896044618658097711785492504343953926634992332820282019728792003956564801911) (hs : secB s = true) (hz : z < 57896044618658097711785492504343953926634992332820282019728792003956564801911) (hz2 : z2 < 57896044618658097711785492504343953926634992332820282019728792003956564801911) (h : 4 ^ z % 115792089237316195423570985008687907853269984665640564039457584007913129603823 * (pubN s ^ ngq c % 115792089237316195423570985008687907853269984665640564039457584007913129603823) % 115792089237316195423570985008687907853269984665640564039457584007913129603823 = 4 ^ z2 % 115792089237316195423570985008687907853269984665640564039457584007913129603823 * (pubN s ^ ngq c % 115792089237316195423570985008687907853269984665640564039457584007913129603823) % 115792089237316195423570985008687907853269984665640564039457584007913129603823) : z = z2 := by
  rw [com_pow hq hs, com_pow hq hs] at h
  have := p4_inj (by rw [← hq]; exact Nat.mod_lt _ (by omega)) (by rw [← hq]; exact Nat.mod_lt _ (by omega)) h
  generalize s * ngq c = w at this
  subst hq
  omega
end Go.Proofs
/- Signatures: the reference's powers, commitments, the sanity check. -/
namespace Go.Proofs
open Go.SE

set_option maxHeartbeats 1000000 in
theorem gmulRef (a b : Nat) (ha : a < 115792089237316195423570985008687907853269984665640564039457584007913129639936) (hb : b < 115792089237316195423570985008687907853269984665640564039457584007913129639936) : SCall Tryd.prog 52 [(.arr 4 (.int .u64), u256 a), (.arr 4 (.int .u64), u256 b)] (fun rs => rs = [.d (.arr 4 (.int .u64)) (u256 (a * b % 115792089237316195423570985008687907853269984665640564039457584007913129603823))]) := by
  have c := wmulmodRef a b 115792089237316195423570985008687907853269984665640564039457584007913129603823 ha hb (by omega) (by omega)
  generalize a * b % 115792089237316195423570985008687907853269984665640564039457584007913129603823 = e at *
  refine scall_intro (n := 9) (rl := [.cell 4 45]) (us := [45]) Tryd.hT Tryd.func52 rfl rfl rfl rfl rfl (Nat.le_of_ble_eq_true rfl) ?_
  intro w0 hL0
  simp -dsimp -implicitDefEqProofs (disch := omega) only [↓reduceIte, ↓gA, gB, refs, den, hasTy, Ty.cmp, Ty.depth, reduceCtorEq, Nat.reduceAdd, Nat.reduceSub, Nat.reduceMul, Nat.reduceEqDiff, Nat.reduceLT, Nat.reduceLeDiff, Nat.reduceMod, Nat.reduceDiv, Nat.reducePow, Nat.reduceBEq, Int.reduceToNat, Int.reduceLE, Int.reduceLT, Int.reduceEq, Int.reduceAdd, Int.reduceMul, Int.reduceSub, Int.reduceNeg, Int.reduceNe, Tryd.TS, Tryd.EV, rep4]
  refine sdraw (id := 1) Tryd.hT (by kernel_rfl) [4] [] [0, 1, 2, 3, 4] (by kernel_rfl) (by kernel_rfl) (by kernel_rfl) ?_; simp only [gK, ↓reduceIte, Nat.reduceEqDiff]
  simp -dsimp -implicitDefEqProofs (disch := omega) only [↓reduceIte, ↓gA, gB, refs, den, hasTy, Ty.cmp, Ty.depth, reduceCtorEq, Nat.reduceAdd, Nat.reduceSub, Nat.reduceMul, Nat.reduceEqDiff, Nat.reduceLT, Nat.reduceLeDiff, Nat.reduceMod, Nat.reduceDiv, Nat.reducePow, Nat.reduceBEq, Int.reduceToNat, Int.reduceLE, Int.reduceLT, Int.reduceEq, Int.reduceAdd, Int.reduceMul, Int.reduceSub, Int.reduceNeg, Int.reduceNe, Tryd.TS, Tryd.EV]
  first | (with_reducible refine HCall_mono (gmodulusRef) ?_; rintro rs rfl) | (with_reducible refine HCallF_mono (gmodulusRef) (by first | rfl | simp [flatR, RV.flat, RV.isD, Ty.flat]) ?_) | (refine SCall.mono (gmodulusRef) ?_; rintro rs rfl)
  simp -dsimp -implicitDefEqProofs (disch := omega) only [↓reduceIte, ↓gA, gB, refs, den, hasTy, Ty.cmp, Ty.depth, reduceCtorEq, Nat.reduceAdd, Nat.reduceSub, Nat.reduceMul, Nat.reduceEqDiff, Nat.reduceLT, Nat.reduceLeDiff, Nat.reduceMod, Nat.reduceDiv, Nat.reducePow, Nat.reduceBEq, Int.reduceToNat, Int.reduceLE, Int.reduceLT, Int.reduceEq, Int.reduceAdd, Int.reduceMul, Int.reduceSub, Int.reduceNeg, Int.reduceNe, Tryd.TS, Tryd.EV]
  first | (with_reducible refine HCall_mono (c) ?_; rintro rs rfl) | (with_reducible refine HCallF_mono (c) (by first | rfl | simp [flatR, RV.flat, RV.isD, Ty.flat]) ?_) | (refine SCall.mono (c) ?_; rintro rs rfl)
  simp -dsimp -implicitDefEqProofs (disch := omega) only [↓reduceIte, ↓gA, gB, refs, den, hasTy, Ty.cmp, Ty.depth, reduceCtorEq, Nat.reduceAdd, Nat.reduceSub, Nat.reduceMul, Nat.reduceEqDiff, Nat.reduceLT, Nat.reduceLeDiff, Nat.reduceMod, Nat.reduceDiv, Nat.reducePow, Nat.reduceBEq, Int.reduceToNat, Int.reduceLE, Int.reduceLT, Int.reduceEq, Int.reduceAdd, Int.reduceMul, Int.reduceSub, Int.reduceNeg, Int.reduceNe, Tryd.TS, Tryd.EV]

set_option maxHeartbeats 1000000 in
theorem gpowerRef (e : Nat) (he : e < 115792089237316195423570985008687907853269984665640564039457584007913129639936) : SCall Tryd.prog 53 [(.arr 4 (.int .u64), u256 e)] (fun rs => rs = [.d (.arr 4 (.int .u64)) (u256 (4 ^ e % 115792089237316195423570985008687907853269984665640564039457584007913129603823))]) := by
  have hf : SCall Tryd.prog 64 [(.int .u64, .n 4)] (fun rs => rs = [.d (.arr 4 (.int .u64)) (u256 4)]) := fromUintRef 4 (by omega)
  have c := gexpRef 4 e (by omega) he
  generalize 4 ^ e % 115792089237316195423570985008687907853269984665640564039457584007913129603823 = y at *
  refine scall_intro (n := 6) (rl := [.cell 2 45]) (us := [45]) Tryd.hT Tryd.func53 rfl rfl rfl rfl rfl (Nat.le_of_ble_eq_true rfl) ?_
  intro w0 hL0
  simp -dsimp -implicitDefEqProofs (disch := omega) only [↓reduceIte, ↓gA, gB, refs, den, hasTy, Ty.cmp, Ty.depth, reduceCtorEq, Nat.reduceAdd, Nat.reduceSub, Nat.reduceMul, Nat.reduceEqDiff, Nat.reduceLT, Nat.reduceLeDiff, Nat.reduceMod, Nat.reduceDiv, Nat.reducePow, Nat.reduceBEq, Int.reduceToNat, Int.reduceLE, Int.reduceLT, Int.reduceEq, Int.reduceAdd, Int.reduceMul, Int.reduceSub, Int.reduceNeg, Int.reduceNe, Tryd.TS, Tryd.EV, rep4]
  refine sdraw (id := 1) Tryd.hT (by kernel_rfl) [3] [] [1, 0, 2, 3] (by kernel_rfl) (by kernel_rfl) (by kernel_rfl) ?_; simp only [gK, ↓reduceIte, Nat.reduceEqDiff]
  simp -dsimp -implicitDefEqProofs (disch := omega) only [↓reduceIte, ↓gA, gB, refs, den, hasTy, Ty.cmp, Ty.depth, reduceCtorEq, Nat.reduceAdd, Nat.reduceSub, Nat.reduceMul, Nat.reduceEqDiff, Nat.reduceLT, Nat.reduceLeDiff, Nat.reduceMod, Nat.reduceDiv, Nat.reducePow, Nat.reduceBEq, Int.reduceToNat, Int.reduceLE, Int.reduceLT, Int.reduceEq, Int.reduceAdd, Int.reduceMul, Int.reduceSub, Int.reduceNeg, Int.reduceNe, Tryd.TS, Tryd.EV]
  first | (with_reducible refine HCall_mono (hf) ?_; rintro rs rfl) | (with_reducible refine HCallF_mono (hf) (by first | rfl | simp [flatR, RV.flat, RV.isD, Ty.flat]) ?_) | (refine SCall.mono (hf) ?_; rintro rs rfl)
  simp -dsimp -implicitDefEqProofs (disch := omega) only [↓reduceIte, ↓gA, gB, refs, den, hasTy, Ty.cmp, Ty.depth, reduceCtorEq, Nat.reduceAdd, Nat.reduceSub, Nat.reduceMul, Nat.reduceEqDiff, Nat.reduceLT, Nat.reduceLeDiff, Nat.reduceMod, Nat.reduceDiv, Nat.reducePow, Nat.reduceBEq, Int.reduceToNat, Int.reduceLE, Int.reduceLT, Int.reduceEq, Int.reduceAdd, Int.reduceMul, Int.reduceSub, Int.reduceNeg, Int.reduceNe, Tryd.TS, Tryd.EV]
  first | (with_reducible refine HCall_mono (c) ?_; rintro rs rfl) | (with_reducible refine HCallF_mono (c) (by first | rfl | simp [flatR, RV.flat, RV.isD, Ty.flat]) ?_) | (refine SCall.mono (c) ?_; rintro rs rfl)
  simp -dsimp -implicitDefEqProofs (disch := omega) only [↓reduceIte, ↓gA, gB, refs, den, hasTy, Ty.cmp, Ty.depth, reduceCtorEq, Nat.reduceAdd, Nat.reduceSub, Nat.reduceMul, Nat.reduceEqDiff, Nat.reduceLT, Nat.reduceLeDiff, Nat.reduceMod, Nat.reduceDiv, Nat.reducePow, Nat.reduceBEq, Int.reduceToNat, Int.reduceLE, Int.reduceLT, Int.reduceEq, Int.reduceAdd, Int.reduceMul, Int.reduceSub, Int.reduceNeg, Int.reduceNe, Tryd.TS, Tryd.EV]

set_option maxHeartbeats 4000000 in
theorem scommit (x c z : Nat) (hx : x < 115792089237316195423570985008687907853269984665640564039457584007913129639936) (hc : c < 115792089237316195423570985008687907853269984665640564039457584007913129639936) (hz : z < 115792089237316195423570985008687907853269984665640564039457584007913129639936) : SCall Tryd.prog 18 [(.arr 4 (.int .u64), u256 x), (.cons (.arr 4 (.int .u64)) (.cons (.arr 4 (.int .u64)) .nil), .l [u256 c, u256 z])]
    (fun rs => rs = [.d (.arr 4 (.int .u64)) (u256 (4 ^ z % 115792089237316195423570985008687907853269984665640564039457584007913129603823 * (x ^ ngq c % 115792089237316195423570985008687907853269984665640564039457584007913129603823) % 115792089237316195423570985008687907853269984665640564039457584007913129603823))]) := by
  have c4 := gpowerRef z hz
  have c5 := gnegScalarRef c hc
  have hn : ngq c < 115792089237316195423570985008687907853269984665640564039457584007913129639936 := Nat.lt_trans (ngq_lt c) (by omega)
  have c6 := gexpRef x (ngq c) hx hn
  have l1 : 4 ^ z % 115792089237316195423570985008687907853269984665640564039457584007913129603823 < 115792089237316195423570985008687907853269984665640564039457584007913129639936 := Nat.lt_trans (p4_lt z) (by omega)
  have l2 : x ^ ngq c % 115792089237316195423570985008687907853269984665640564039457584007913129603823 < 115792089237316195423570985008687907853269984665640564039457584007913129639936 := Nat.lt_trans (Nat.mod_lt _ (by omega)) (show 115792089237316195423570985008687907853269984665640564039457584007913129603823 < 115792089237316195423570985008687907853269984665640564039457584007913129639936 by omega)
  have c7 := gmulRef (4 ^ z % 115792089237316195423570985008687907853269984665640564039457584007913129603823) (x ^ ngq c % 115792089237316195423570985008687907853269984665640564039457584007913129603823) l1 l2
  generalize 4 ^ z % 115792089237316195423570985008687907853269984665640564039457584007913129603823 * (x ^ ngq c % 115792089237316195423570985008687907853269984665640564039457584007913129603823) % 115792089237316195423570985008687907853269984665640564039457584007913129603823 = w at *
  generalize x ^ ngq c % 115792089237316195423570985008687907853269984665640564039457584007913129603823 = u at *
  generalize 4 ^ z % 115792089237316195423570985008687907853269984665640564039457584007913129603823 = t at *
  generalize ngq c = n at *
  refine scall_intro (n := 14) (rl := [.cell 4 45]) (us := [45]) Tryd.hT Tryd.func18 rfl rfl rfl rfl rfl (Nat.le_of_ble_eq_true rfl) ?_
  intro w0 hL0
  simp -dsimp -implicitDefEqProofs (disch := omega) only [↓reduceIte, ↓gA, gB, refs, den, hasTy, Ty.cmp, Ty.depth, reduceCtorEq, Nat.reduceAdd, Nat.reduceSub, Nat.reduceMul, Nat.reduceEqDiff, Nat.reduceLT, Nat.reduceLeDiff, Nat.reduceMod, Nat.reduceDiv, Nat.reducePow, Nat.reduceBEq, Int.reduceToNat, Int.reduceLE, Int.reduceLT, Int.reduceEq, Int.reduceAdd, Int.reduceMul, Int.reduceSub, Int.reduceNeg, Int.reduceNe, Tryd.TS, Tryd.EV, rep4]
  refine sdraw (id := 1) Tryd.hT (by kernel_rfl) [9] [] [0, 1, 3, 4, 5, 2, 6, 7, 8, 9] (by kernel_rfl) (by kernel_rfl) (by kernel_rfl) ?_; simp only [gK, ↓reduceIte, Nat.reduceEqDiff]
  simp -dsimp -implicitDefEqProofs (disch := omega) only [↓reduceIte, ↓gA, gB, refs, den, hasTy, Ty.cmp, Ty.depth, reduceCtorEq, Nat.reduceAdd, Nat.reduceSub, Nat.reduceMul, Nat.reduceEqDiff, Nat.reduceLT, Nat.reduceLeDiff, Nat.reduceMod, Nat.reduceDiv, Nat.reducePow, Nat.reduceBEq, Int.reduceToNat, Int.reduceLE, Int.reduceLT, Int.reduceEq, Int.reduceAdd, Int.reduceMul, Int.reduceSub, Int.reduceNeg, Int.reduceNe, Tryd.TS, Tryd.EV]
  first | (with_reducible refine HCall_mono (c4) ?_; rintro rs rfl) | (with_reducible refine HCallF_mono (c4) (by first | rfl | simp [flatR, RV.flat, RV.isD, Ty.flat]) ?_) | (refine SCall.mono (c4) ?_; rintro rs rfl)
  simp -dsimp -implicitDefEqProofs (disch := omega) only [↓reduceIte, ↓gA, gB, refs, den, hasTy, Ty.cmp, Ty.depth, reduceCtorEq, Nat.reduceAdd, Nat.reduceSub, Nat.reduceMul, Nat.reduceEqDiff, Nat.reduceLT, Nat.reduceLeDiff, Nat.reduceMod, Nat.reduceDiv, Nat.reducePow, Nat.reduceBEq, Int.reduceToNat, Int.reduceLE, Int.reduceLT, Int.reduceEq, Int.reduceAdd, Int.reduceMul, Int.reduceSub, Int.reduceNeg, Int.reduceNe, Tryd.TS, Tryd.EV]
  first | (with_reducible refine HCall_mono (c5) ?_; rintro rs rfl) | (with_reducible refine HCallF_mono (c5) (by first | rfl | simp [flatR, RV.flat, RV.isD, Ty.flat]) ?_) | (refine SCall.mono (c5) ?_; rintro rs rfl)
  simp -dsimp -implicitDefEqProofs (disch := omega) only [↓reduceIte, ↓gA, gB, refs, den, hasTy, Ty.cmp, Ty.depth, reduceCtorEq, Nat.reduceAdd, Nat.reduceSub, Nat.reduceMul, Nat.reduceEqDiff, Nat.reduceLT, Nat.reduceLeDiff, Nat.reduceMod, Nat.reduceDiv, Nat.reducePow, Nat.reduceBEq, Int.reduceToNat, Int.reduceLE, Int.reduceLT, Int.reduceEq, Int.reduceAdd, Int.reduceMul, Int.reduceSub, Int.reduceNeg, Int.reduceNe, Tryd.TS, Tryd.EV]
  first | (with_reducible refine HCall_mono (c6) ?_; rintro rs rfl) | (with_reducible refine HCallF_mono (c6) (by first | rfl | simp [flatR, RV.flat, RV.isD, Ty.flat]) ?_) | (refine SCall.mono (c6) ?_; rintro rs rfl)
  simp -dsimp -implicitDefEqProofs (disch := omega) only [↓reduceIte, ↓gA, gB, refs, den, hasTy, Ty.cmp, Ty.depth, reduceCtorEq, Nat.reduceAdd, Nat.reduceSub, Nat.reduceMul, Nat.reduceEqDiff, Nat.reduceLT, Nat.reduceLeDiff, Nat.reduceMod, Nat.reduceDiv, Nat.reducePow, Nat.reduceBEq, Int.reduceToNat, Int.reduceLE, Int.reduceLT, Int.reduceEq, Int.reduceAdd, Int.reduceMul, Int.reduceSub, Int.reduceNeg, Int.reduceNe, Tryd.TS, Tryd.EV]
  first | (with_reducible refine HCall_mono (c7) ?_; rintro rs rfl) | (with_reducible refine HCallF_mono (c7) (by first | rfl | simp [flatR, RV.flat, RV.isD, Ty.flat]) ?_) | (refine SCall.mono (c7) ?_; rintro rs rfl)
  simp -dsimp -implicitDefEqProofs (disch := omega) only [↓reduceIte, ↓gA, gB, refs, den, hasTy, Ty.cmp, Ty.depth, reduceCtorEq, Nat.reduceAdd, Nat.reduceSub, Nat.reduceMul, Nat.reduceEqDiff, Nat.reduceLT, Nat.reduceLeDiff, Nat.reduceMod, Nat.reduceDiv, Nat.reducePow, Nat.reduceBEq, Int.reduceToNat, Int.reduceLE, Int.reduceLT, Int.reduceEq, Int.reduceAdd, Int.reduceMul, Int.reduceSub, Int.reduceNeg, Int.reduceNe, Tryd.TS, Tryd.EV]
end Go.Proofs
/- Signatures: what the sanity check reckons. -/
namespace Go.Proofs
open Go.SE

def m9 : List D := .n 9 :: List.replicate 31 (.n 0)
def m8 : List D := .n 8 :: List.replicate 31 (.n 0)
theorem m9_by : BY m9 := .cons (n := 9) (by omega) (fun x hx => ⟨0, List.eq_of_mem_replicate hx, by omega⟩)
theorem m8_by : BY m8 := .cons (n := 8) (by omega) (fun x hx => ⟨0, List.eq_of_mem_replicate hx, by omega⟩)
theorem k9 : nonc 1 m9 = 34517855608631459778318790968346957052021824314223759952716990743715090576640 := by decide +kernel
theorem r9 : 4 ^ nonc 1 m9 % 115792089237316195423570985008687907853269984665640564039457584007913129603823 = 14500575653409901411290387783030309382191086797220558246115933178479965539775 := by
  rw [k9]
  obtain ⟨e, he⟩ : ∃ e : Nat, e = 34517855608631459778318790968346957052021824314223759952716990743715090576640 := ⟨_, rfl⟩
  rw [← he, ← Nt.pm_ok 115792089237316195423570985008687907853269984665640564039457584007913129603823 256 4 e (by omega), he]
  decide +kernel
theorem c9 : chal 14500575653409901411290387783030309382191086797220558246115933178479965539775 4 m9 = 55212807338262820438849241152816710381982209471871400867457725177904933943699 := by decide +kernel
theorem c8 : chal 14500575653409901411290387783030309382191086797220558246115933178479965539775 4 m8 = 34904273341293243886062390803637023782484123166012357825590957433480282439107 := by decide +kernel
end Go.Proofs
/- Signatures: the sanity check. -/
namespace Go.Proofs
open Go.SE

theorem sec1 : secB 1 = true := by
  unfold secB
  rw [decide_eq_true (show 1 ≠ 0 by omega), decide_eq_true (show 1 < 57896044618658097711785492504343953926634992332820282019728792003956564801911 by omega)]
  rfl
theorem pub1 : pubN 1 = 4 := by
  unfold pubN
  rw [if_pos sec1, Nat.pow_one]
theorem h9 : (List.replicate 32 (D.n 0)).set 0 (D.n 9) = m9 := rfl
theorem h8 : (List.replicate 32 (D.n 0)).set 0 (D.n 8) = m8 := rfl
theorem ver_sig' {q s y : Nat} (m : List D) (hq : q = 57896044618658097711785492504343953926634992332820282019728792003956564801911) (hs : secB s = true) (hy : pubN s = y) : verB q y m (sigC s m) (sigR s m) = true := by
  subst hy
  exact ver_sig m hq hs
theorem ver_not {q s y r c c' : Nat} (m m' : List D) (hq : q = 57896044618658097711785492504343953926634992332820282019728792003956564801911) (hs : secB s = true) (hy : pubN s = y) (hr : 4 ^ nonc s m % 115792089237316195423570985008687907853269984665640564039457584007913129603823 = r) (hc : chal r y m = c) (hc' : chal r y m' = c') (hne : ¬ c = c') : verB q y m' (sigC s m) (sigR s m) = false := by
  have h := com_pow (q := q) (s := s) (c := sigC s m) (z := sigR s m) hq hs
  have he : (sigR s m + s * ngq (sigC s m)) % q = nonc s m := sig_exp hq (by rw [hq]; exact nonc_lt s m)
  rw [he, hy, hr] at h
  have hs : sigC s m = c := by unfold sigC; rw [hr, hy, hc]
  unfold verB
  rw [h, hc', hs, decide_eq_false hne]
  simp only [Bool.and_false]
theorem ver9 {q : Nat} (hq : q = 57896044618658097711785492504343953926634992332820282019728792003956564801911) : verB q 4 m9 (sigC 1 m9) (sigR 1 m9) = true := ver_sig' m9 hq sec1 pub1
theorem ver8 {q : Nat} (hq : q = 57896044618658097711785492504343953926634992332820282019728792003956564801911) : verB q 4 m8 (sigC 1 m9) (sigR 1 m9) = false := ver_not m9 m8 hq sec1 pub1 r9 c9 c8 (by omega)
theorem val1 (q : Nat) : valB q 1 = false := by simp [valB]
theorem u4 : D.l [.n 4, .n 0, .n 0, .n 0] = u256 4 := rfl
theorem u1 : D.l [.n 1, .n 0, .n 0, .n 0] = u256 1 := rfl

set_option maxHeartbeats 4000000 in
set_option maxRecDepth 100000 in
theorem gsane6 (q : Nat) (hq : q = 57896044618658097711785492504343953926634992332820282019728792003956564801911) : SCall Tryd.prog 14 [] (fun rs => rs = [.d .bool (.b true)]) := by
  have p1 := spublic 1 (by omega)
  have p2 := ssign 1 m9 (by omega) m9_by rfl
  have lC : sigC 1 m9 < 115792089237316195423570985008687907853269984665640564039457584007913129639936 := Nat.lt_trans (sigC_lt _ _) (by omega)
  have lR : sigR 1 m9 < 115792089237316195423570985008687907853269984665640564039457584007913129639936 := Nat.lt_trans (sigR_lt _ _) (by omega)
  have p3 := sverify 4 q (sigC 1 m9) (sigR 1 m9) m9 (by omega) lC lR m9_by rfl hq
  have p4 := sverify 4 q (sigC 1 m9) (sigR 1 m9) m8 (by omega) lC lR m8_by rfl hq
  have p5 := svalid 1 q (by omega) hq
  rw [ver9 hq] at p3
  rw [ver8 hq] at p4
  rw [val1] at p5
  rw [pub1, show pubE 1 = 0 by unfold pubE; rw [if_pos sec1]] at p1
  rw [if_pos sec1, show pubE 1 = 0 by unfold pubE; rw [if_pos sec1]] at p2
  generalize sigC 1 m9 = c at *
  generalize sigR 1 m9 = z at *
  refine scall_intro (n := 45) (rl := [.tmp 0]) (us := [4]) Tryd.hT Tryd.func14 rfl rfl rfl rfl rfl (Nat.le_of_ble_eq_true rfl) ?_
  intro w0 hL0
  simp -dsimp -implicitDefEqProofs (disch := omega) only [↓reduceIte, ↓gA, gB, refs, den, hasTy, Ty.cmp, Ty.depth, reduceCtorEq, Nat.reduceAdd, Nat.reduceSub, Nat.reduceMul, Nat.reduceEqDiff, Nat.reduceLT, Nat.reduceLeDiff, Nat.reduceMod, Nat.reduceDiv, Nat.reducePow, Nat.reduceBEq, Int.reduceToNat, Int.reduceLE, Int.reduceLT, Int.reduceEq, Int.reduceAdd, Int.reduceMul, Int.reduceSub, Int.reduceNeg, Int.reduceNe, Tryd.TS, Tryd.EV, rep4, u1, u4]
  first | (with_reducible refine HCall_mono (p1) ?_; rintro rs rfl) | (with_reducible refine HCallF_mono (p1) (by first | rfl | simp [flatR, RV.flat, RV.isD, Ty.flat]) ?_) | (refine SCall.mono (p1) ?_; rintro rs rfl)
  simp -dsimp -implicitDefEqProofs (disch := omega) only [↓reduceIte, ↓gA, gB, refs, den, hasTy, Ty.cmp, Ty.depth, reduceCtorEq, Nat.reduceAdd, Nat.reduceSub, Nat.reduceMul, Nat.reduceEqDiff, Nat.reduceLT, Nat.reduceLeDiff, Nat.reduceMod, Nat.reduceDiv, Nat.reducePow, Nat.reduceBEq, Int.reduceToNat, Int.reduceLE, Int.reduceLT, Int.reduceEq, Int.reduceAdd, Int.reduceMul, Int.reduceSub, Int.reduceNeg, Int.reduceNe, Tryd.TS, Tryd.EV, rep4, u1, u4, h9]
  first | (with_reducible refine HCall_mono (p2) ?_; rintro rs rfl) | (with_reducible refine HCallF_mono (p2) (by first | rfl | simp [flatR, RV.flat, RV.isD, Ty.flat]) ?_) | (refine SCall.mono (p2) ?_; rintro rs rfl)
  simp -dsimp -implicitDefEqProofs (disch := omega) only [↓reduceIte, ↓gA, gB, refs, den, hasTy, Ty.cmp, Ty.depth, reduceCtorEq, Nat.reduceAdd, Nat.reduceSub, Nat.reduceMul, Nat.reduceEqDiff, Nat.reduceLT, Nat.reduceLeDiff, Nat.reduceMod, Nat.reduceDiv, Nat.reducePow, Nat.reduceBEq, Int.reduceToNat, Int.reduceLE, Int.reduceLT, Int.reduceEq, Int.reduceAdd, Int.reduceMul, Int.reduceSub, Int.reduceNeg, Int.reduceNe, Tryd.TS, Tryd.EV, rep4, u1, u4, h9, h8, u256_inj (show 4 < 115792089237316195423570985008687907853269984665640564039457584007913129639936 by omega) (show 4 < 115792089237316195423570985008687907853269984665640564039457584007913129639936 by omega)]
  first | (with_reducible refine HCall_mono (p3) ?_; rintro rs rfl) | (with_reducible refine HCallF_mono (p3) (by first | rfl | simp [flatR, RV.flat, RV.isD, Ty.flat]) ?_) | (refine SCall.mono (p3) ?_; rintro rs rfl)
  simp -dsimp -implicitDefEqProofs (disch := omega) only [↓reduceIte, ↓gA, gB, refs, den, hasTy, Ty.cmp, Ty.depth, reduceCtorEq, Nat.reduceAdd, Nat.reduceSub, Nat.reduceMul, Nat.reduceEqDiff, Nat.reduceLT, Nat.reduceLeDiff, Nat.reduceMod, Nat.reduceDiv, Nat.reducePow, Nat.reduceBEq, Int.reduceToNat, Int.reduceLE, Int.reduceLT, Int.reduceEq, Int.reduceAdd, Int.reduceMul, Int.reduceSub, Int.reduceNeg, Int.reduceNe, Tryd.TS, Tryd.EV, h8]
  first | (with_reducible refine HCall_mono (p4) ?_; rintro rs rfl) | (with_reducible refine HCallF_mono (p4) (by first | rfl | simp [flatR, RV.flat, RV.isD, Ty.flat]) ?_) | (refine SCall.mono (p4) ?_; rintro rs rfl)
  simp -dsimp -implicitDefEqProofs (disch := omega) only [↓reduceIte, ↓gA, gB, refs, den, hasTy, Ty.cmp, Ty.depth, reduceCtorEq, Nat.reduceAdd, Nat.reduceSub, Nat.reduceMul, Nat.reduceEqDiff, Nat.reduceLT, Nat.reduceLeDiff, Nat.reduceMod, Nat.reduceDiv, Nat.reducePow, Nat.reduceBEq, Int.reduceToNat, Int.reduceLE, Int.reduceLT, Int.reduceEq, Int.reduceAdd, Int.reduceMul, Int.reduceSub, Int.reduceNeg, Int.reduceNe, Tryd.TS, Tryd.EV, rep4, u1]
  first | (with_reducible refine HCall_mono (p5) ?_; rintro rs rfl) | (with_reducible refine HCallF_mono (p5) (by first | rfl | simp [flatR, RV.flat, RV.isD, Ty.flat]) ?_) | (refine SCall.mono (p5) ?_; rintro rs rfl)
  simp -dsimp -implicitDefEqProofs (disch := omega) only [↓reduceIte, ↓gA, gB, refs, den, hasTy, Ty.cmp, Ty.depth, reduceCtorEq, Nat.reduceAdd, Nat.reduceSub, Nat.reduceMul, Nat.reduceEqDiff, Nat.reduceLT, Nat.reduceLeDiff, Nat.reduceMod, Nat.reduceDiv, Nat.reducePow, Nat.reduceBEq, Int.reduceToNat, Int.reduceLE, Int.reduceLT, Int.reduceEq, Int.reduceAdd, Int.reduceMul, Int.reduceSub, Int.reduceNeg, Int.reduceNe, Tryd.TS, Tryd.EV]
end Go.Proofs
/- Signatures: the law's text. -/
namespace Go.Proofs
open Go.SE

theorem secB_zero {s : Nat} (h : s < 57896044618658097711785492504343953926634992332820282019728792003956564801911) (hs : secB s = false) : s = 0 := by
  unfold secB at hs
  rw [decide_eq_true h, Bool.and_true] at hs
  exact Decidable.byContradiction fun k => by rw [decide_eq_true k] at hs; cases hs
theorem verB_ch {q x : Nat} {m : List D} {c z : Nat} (h : verB q x m c z = true) : c = chal (4 ^ z % 115792089237316195423570985008687907853269984665640564039457584007913129603823 * (x ^ ngq c % 115792089237316195423570985008687907853269984665640564039457584007913129603823) % 115792089237316195423570985008687907853269984665640564039457584007913129603823) x m := by
  unfold verB at h
  rw [Bool.and_eq_true, Bool.and_eq_true, Bool.and_eq_true] at h
  exact of_decide_eq_true h.2.2.2
theorem w1 (t : Nat) (ht : t < 18446744073709551616) : D.l [.n (t : Int), .n 0, .n 0, .n 0] = u256 t :=
  u256_mk (a := t) (b := 0) (c := 0) (d := 0) ht (by omega) (by omega) (by omega) (by omega)

set_option maxHeartbeats 4000000 in
set_option maxRecDepth 100000 in
theorem signRight (d m : List D) (t q : Nat) (hd : BY d) (hdl : d.length = 32) (hm : BY m) (hml : m.length = 32) (ht : t < 18446744073709551616) (hq : q = 57896044618658097711785492504343953926634992332820282019728792003956564801911) :
    SCall Tryd.prog 4 [(.arr 32 (.int .u8), .l d), (.arr 32 (.int .u8), .l m), (.int .u64, .n t)] (fun rs => rs = [.d .bool (.b true)]) := by
  have c1 := gscalarRef d hd hdl
  have hsQ : fb d % 57896044618658097711785492504343953926634992332820282019728792003956564801911 < 57896044618658097711785492504343953926634992332820282019728792003956564801911 := Nat.mod_lt _ (by omega)
  generalize fb d % 57896044618658097711785492504343953926634992332820282019728792003956564801911 = s at *
  have hsM : s < 115792089237316195423570985008687907853269984665640564039457584007913129639936 := by omega
  have c2 := spublic s hsM
  have c3 := ssign s m hsM hm hml
  have hw := w1 t ht
  refine scall_intro (n := 89) (rl := [.tmp 6]) (us := [4]) Tryd.hT Tryd.func4 rfl rfl rfl rfl rfl (Nat.le_of_ble_eq_true rfl) ?_
  intro w0 hL0
  rcases hs : secB s with _ | _
  · have h0 := secB_zero hsQ hs
    subst h0
    rw [hs] at c3
    rw [show pubE 0 = 60 by unfold pubE; rw [hs]; rfl] at c2 c3
    rw [if_neg (by simp)] at c3
    simp -dsimp -implicitDefEqProofs (disch := omega) only [↓reduceIte, ↓gA, gB, refs, den, hasTy, Ty.cmp, Ty.depth, reduceCtorEq, Nat.reduceAdd, Nat.reduceSub, Nat.reduceMul, Nat.reduceEqDiff, Nat.reduceLT, Nat.reduceLeDiff, Nat.reduceMod, Nat.reduceDiv, Nat.reducePow, Nat.reduceBEq, Int.reduceToNat, Int.reduceLE, Int.reduceLT, Int.reduceEq, Int.reduceAdd, Int.reduceMul, Int.reduceSub, Int.reduceNeg, Int.reduceNe, Tryd.TS, Tryd.EV, rep4]
    first | (with_reducible refine HCall_mono (c1) ?_; rintro rs rfl) | (with_reducible refine HCallF_mono (c1) (by first | rfl | simp [flatR, RV.flat, RV.isD, Ty.flat]) ?_) | (refine SCall.mono (c1) ?_; rintro rs rfl)
    simp -dsimp -implicitDefEqProofs (disch := omega) only [↓reduceIte, ↓gA, gB, refs, den, hasTy, Ty.cmp, Ty.depth, reduceCtorEq, Nat.reduceAdd, Nat.reduceSub, Nat.reduceMul, Nat.reduceEqDiff, Nat.reduceLT, Nat.reduceLeDiff, Nat.reduceMod, Nat.reduceDiv, Nat.reducePow, Nat.reduceBEq, Int.reduceToNat, Int.reduceLE, Int.reduceLT, Int.reduceEq, Int.reduceAdd, Int.reduceMul, Int.reduceSub, Int.reduceNeg, Int.reduceNe, Tryd.TS, Tryd.EV, rep4]
    first | (with_reducible refine HCall_mono (c2) ?_; rintro rs rfl) | (with_reducible refine HCallF_mono (c2) (by first | rfl | simp [flatR, RV.flat, RV.isD, Ty.flat]) ?_) | (refine SCall.mono (c2) ?_; rintro rs rfl)
    simp -dsimp -implicitDefEqProofs (disch := omega) only [↓reduceIte, ↓gA, gB, refs, den, hasTy, Ty.cmp, Ty.depth, reduceCtorEq, Nat.reduceAdd, Nat.reduceSub, Nat.reduceMul, Nat.reduceEqDiff, Nat.reduceLT, Nat.reduceLeDiff, Nat.reduceMod, Nat.reduceDiv, Nat.reducePow, Nat.reduceBEq, Int.reduceToNat, Int.reduceLE, Int.reduceLT, Int.reduceEq, Int.reduceAdd, Int.reduceMul, Int.reduceSub, Int.reduceNeg, Int.reduceNe, Tryd.TS, Tryd.EV, rep4]
    first | (with_reducible refine HCall_mono (c3) ?_; rintro rs rfl) | (with_reducible refine HCallF_mono (c3) (by first | rfl | simp [flatR, RV.flat, RV.isD, Ty.flat]) ?_) | (refine SCall.mono (c3) ?_; rintro rs rfl)
    simp -dsimp -implicitDefEqProofs (disch := omega) only [↓reduceIte, ↓gA, gB, refs, den, hasTy, Ty.cmp, Ty.depth, reduceCtorEq, Nat.reduceAdd, Nat.reduceSub, Nat.reduceMul, Nat.reduceEqDiff, Nat.reduceLT, Nat.reduceLeDiff, Nat.reduceMod, Nat.reduceDiv, Nat.reducePow, Nat.reduceBEq, Int.reduceToNat, Int.reduceLE, Int.reduceLT, Int.reduceEq, Int.reduceAdd, Int.reduceMul, Int.reduceSub, Int.reduceNeg, Int.reduceNe, Tryd.TS, Tryd.EV, rep4]
    first | (with_reducible refine HCall_mono (gsane6 q hq) ?_; rintro rs rfl) | (with_reducible refine HCallF_mono (gsane6 q hq) (by first | rfl | simp [flatR, RV.flat, RV.isD, Ty.flat]) ?_) | (refine SCall.mono (gsane6 q hq) ?_; rintro rs rfl)
    simp -dsimp -implicitDefEqProofs (disch := omega) only [↓reduceIte, ↓gA, gB, refs, den, hasTy, Ty.cmp, Ty.depth, reduceCtorEq, Nat.reduceAdd, Nat.reduceSub, Nat.reduceMul, Nat.reduceEqDiff, Nat.reduceLT, Nat.reduceLeDiff, Nat.reduceMod, Nat.reduceDiv, Nat.reducePow, Nat.reduceBEq, Int.reduceToNat, Int.reduceLE, Int.reduceLT, Int.reduceEq, Int.reduceAdd, Int.reduceMul, Int.reduceSub, Int.reduceNeg, Int.reduceNe, Tryd.TS, Tryd.EV, rep4, u256_zero, u256_inj (show 0 < 115792089237316195423570985008687907853269984665640564039457584007913129639936 by omega) (show 0 < 115792089237316195423570985008687907853269984665640564039457584007913129639936 by omega)]
  · have hv := val_pub hq hs
    have hver := ver_sig m hq hs
    have hcom := @com_ne q s (sigC s m) (sigR s m) ((sigR s m + t) % 57896044618658097711785492504343953926634992332820282019728792003956564801911) hq hs (sigR_lt s m) (Nat.mod_lt _ (by omega))
    have hX := pubN_lt s
    have hC : sigC s m < 115792089237316195423570985008687907853269984665640564039457584007913129639936 := Nat.lt_trans (sigC_lt s m) (by omega)
    have hR : sigR s m < 115792089237316195423570985008687907853269984665640564039457584007913129639936 := Nat.lt_trans (sigR_lt s m) (by omega)
    have hR2 : (sigR s m + t) % 57896044618658097711785492504343953926634992332820282019728792003956564801911 < 115792089237316195423570985008687907853269984665640564039457584007913129639936 := Nat.lt_trans (Nat.mod_lt _ (by omega)) (by omega)
    have c4 := gaddScalarRef (sigR s m) t hR (by omega)
    have c5 := svalid (pubN s) q hX hq
    have c6 := sverify (pubN s) q (sigC s m) (sigR s m) m hX hC hR hm hml hq
    have c7 := sverify (pubN s) q (sigC s m) ((sigR s m + t) % 57896044618658097711785492504343953926634992332820282019728792003956564801911) m hX hC hR2 hm hml hq
    have c8 := scommit (pubN s) (sigC s m) (sigR s m) hX hC hR
    have c9' := scommit (pubN s) (sigC s m) ((sigR s m + t) % 57896044618658097711785492504343953926634992332820282019728792003956564801911) hX hC hR2
    rw [hver] at c6
    rw [hv] at c5
    rw [hs, if_pos rfl] at c3
    rw [show pubE s = 0 by unfold pubE; rw [hs]; rfl] at c2 c3
    have hch1 := verB_ch hver
    have hch2 := @verB_ch q (pubN s) m (sigC s m) ((sigR s m + t) % 57896044618658097711785492504343953926634992332820282019728792003956564801911)
    clear hver
    generalize verB q (pubN s) m (sigC s m) ((sigR s m + t) % 57896044618658097711785492504343953926634992332820282019728792003956564801911) = v at *
    generalize (sigR s m + t) % 57896044618658097711785492504343953926634992332820282019728792003956564801911 = z2 at *
    generalize sigR s m = z at *
    generalize sigC s m = c at *
    generalize pubN s = x at *
    have l1 : 4 ^ z % 115792089237316195423570985008687907853269984665640564039457584007913129603823 * (x ^ ngq c % 115792089237316195423570985008687907853269984665640564039457584007913129603823) % 115792089237316195423570985008687907853269984665640564039457584007913129603823 < 115792089237316195423570985008687907853269984665640564039457584007913129639936 := Nat.lt_trans (Nat.mod_lt _ (by omega)) (show 115792089237316195423570985008687907853269984665640564039457584007913129603823 < 115792089237316195423570985008687907853269984665640564039457584007913129639936 by omega)
    have l2 : 4 ^ z2 % 115792089237316195423570985008687907853269984665640564039457584007913129603823 * (x ^ ngq c % 115792089237316195423570985008687907853269984665640564039457584007913129603823) % 115792089237316195423570985008687907853269984665640564039457584007913129603823 < 115792089237316195423570985008687907853269984665640564039457584007913129639936 := Nat.lt_trans (Nat.mod_lt _ (by omega)) (show 115792089237316195423570985008687907853269984665640564039457584007913129603823 < 115792089237316195423570985008687907853269984665640564039457584007913129639936 by omega)
    generalize 4 ^ z % 115792089237316195423570985008687907853269984665640564039457584007913129603823 * (x ^ ngq c % 115792089237316195423570985008687907853269984665640564039457584007913129603823) % 115792089237316195423570985008687907853269984665640564039457584007913129603823 = r1 at *
    generalize 4 ^ z2 % 115792089237316195423570985008687907853269984665640564039457584007913129603823 * (x ^ ngq c % 115792089237316195423570985008687907853269984665640564039457584007913129603823) % 115792089237316195423570985008687907853269984665640564039457584007913129603823 = r2 at *
    simp -dsimp -implicitDefEqProofs (disch := omega) only [↓reduceIte, ↓gA, gB, refs, den, hasTy, Ty.cmp, Ty.depth, reduceCtorEq, Nat.reduceAdd, Nat.reduceSub, Nat.reduceMul, Nat.reduceEqDiff, Nat.reduceLT, Nat.reduceLeDiff, Nat.reduceMod, Nat.reduceDiv, Nat.reducePow, Nat.reduceBEq, Int.reduceToNat, Int.reduceLE, Int.reduceLT, Int.reduceEq, Int.reduceAdd, Int.reduceMul, Int.reduceSub, Int.reduceNeg, Int.reduceNe, Tryd.TS, Tryd.EV, rep4]
    first | (with_reducible refine HCall_mono (c1) ?_; rintro rs rfl) | (with_reducible refine HCallF_mono (c1) (by first | rfl | simp [flatR, RV.flat, RV.isD, Ty.flat]) ?_) | (refine SCall.mono (c1) ?_; rintro rs rfl)
    simp -dsimp -implicitDefEqProofs (disch := omega) only [↓reduceIte, ↓gA, gB, refs, den, hasTy, Ty.cmp, Ty.depth, reduceCtorEq, Nat.reduceAdd, Nat.reduceSub, Nat.reduceMul, Nat.reduceEqDiff, Nat.reduceLT, Nat.reduceLeDiff, Nat.reduceMod, Nat.reduceDiv, Nat.reducePow, Nat.reduceBEq, Int.reduceToNat, Int.reduceLE, Int.reduceLT, Int.reduceEq, Int.reduceAdd, Int.reduceMul, Int.reduceSub, Int.reduceNeg, Int.reduceNe, Tryd.TS, Tryd.EV, rep4]
    first | (with_reducible refine HCall_mono (c2) ?_; rintro rs rfl) | (with_reducible refine HCallF_mono (c2) (by first | rfl | simp [flatR, RV.flat, RV.isD, Ty.flat]) ?_) | (refine SCall.mono (c2) ?_; rintro rs rfl)
    simp -dsimp -implicitDefEqProofs (disch := omega) only [↓reduceIte, ↓gA, gB, refs, den, hasTy, Ty.cmp, Ty.depth, reduceCtorEq, Nat.reduceAdd, Nat.reduceSub, Nat.reduceMul, Nat.reduceEqDiff, Nat.reduceLT, Nat.reduceLeDiff, Nat.reduceMod, Nat.reduceDiv, Nat.reducePow, Nat.reduceBEq, Int.reduceToNat, Int.reduceLE, Int.reduceLT, Int.reduceEq, Int.reduceAdd, Int.reduceMul, Int.reduceSub, Int.reduceNeg, Int.reduceNe, Tryd.TS, Tryd.EV, rep4]
    first | (with_reducible refine HCall_mono (c3) ?_; rintro rs rfl) | (with_reducible refine HCallF_mono (c3) (by first | rfl | simp [flatR, RV.flat, RV.isD, Ty.flat]) ?_) | (refine SCall.mono (c3) ?_; rintro rs rfl)
    simp -dsimp -implicitDefEqProofs (disch := omega) only [↓reduceIte, ↓gA, gB, refs, den, hasTy, Ty.cmp, Ty.depth, reduceCtorEq, Nat.reduceAdd, Nat.reduceSub, Nat.reduceMul, Nat.reduceEqDiff, Nat.reduceLT, Nat.reduceLeDiff, Nat.reduceMod, Nat.reduceDiv, Nat.reducePow, Nat.reduceBEq, Int.reduceToNat, Int.reduceLE, Int.reduceLT, Int.reduceEq, Int.reduceAdd, Int.reduceMul, Int.reduceSub, Int.reduceNeg, Int.reduceNe, Tryd.TS, Tryd.EV, rep4]
    first | (with_reducible refine HCall_mono (gsane6 q hq) ?_; rintro rs rfl) | (with_reducible refine HCallF_mono (gsane6 q hq) (by first | rfl | simp [flatR, RV.flat, RV.isD, Ty.flat]) ?_) | (refine SCall.mono (gsane6 q hq) ?_; rintro rs rfl)
    simp -dsimp -implicitDefEqProofs (disch := omega) only [↓reduceIte, ↓gA, gB, refs, den, hasTy, Ty.cmp, Ty.depth, reduceCtorEq, Nat.reduceAdd, Nat.reduceSub, Nat.reduceMul, Nat.reduceEqDiff, Nat.reduceLT, Nat.reduceLeDiff, Nat.reduceMod, Nat.reduceDiv, Nat.reducePow, Nat.reduceBEq, Int.reduceToNat, Int.reduceLE, Int.reduceLT, Int.reduceEq, Int.reduceAdd, Int.reduceMul, Int.reduceSub, Int.reduceNeg, Int.reduceNe, Tryd.TS, Tryd.EV, rep4, hw]
    first | (with_reducible refine HCall_mono (c4) ?_; rintro rs rfl) | (with_reducible refine HCallF_mono (c4) (by first | rfl | simp [flatR, RV.flat, RV.isD, Ty.flat]) ?_) | (refine SCall.mono (c4) ?_; rintro rs rfl)
    simp -dsimp -implicitDefEqProofs (disch := omega) only [↓reduceIte, ↓gA, gB, refs, den, hasTy, Ty.cmp, Ty.depth, reduceCtorEq, Nat.reduceAdd, Nat.reduceSub, Nat.reduceMul, Nat.reduceEqDiff, Nat.reduceLT, Nat.reduceLeDiff, Nat.reduceMod, Nat.reduceDiv, Nat.reducePow, Nat.reduceBEq, Int.reduceToNat, Int.reduceLE, Int.reduceLT, Int.reduceEq, Int.reduceAdd, Int.reduceMul, Int.reduceSub, Int.reduceNeg, Int.reduceNe, Tryd.TS, Tryd.EV, rep4, set_sg0, set_sg1]
    first | (with_reducible refine HCall_mono (c5) ?_; rintro rs rfl) | (with_reducible refine HCallF_mono (c5) (by first | rfl | simp [flatR, RV.flat, RV.isD, Ty.flat]) ?_) | (refine SCall.mono (c5) ?_; rintro rs rfl)
    simp -dsimp -implicitDefEqProofs (disch := omega) only [↓reduceIte, ↓gA, gB, refs, den, hasTy, Ty.cmp, Ty.depth, reduceCtorEq, Nat.reduceAdd, Nat.reduceSub, Nat.reduceMul, Nat.reduceEqDiff, Nat.reduceLT, Nat.reduceLeDiff, Nat.reduceMod, Nat.reduceDiv, Nat.reducePow, Nat.reduceBEq, Int.reduceToNat, Int.reduceLE, Int.reduceLT, Int.reduceEq, Int.reduceAdd, Int.reduceMul, Int.reduceSub, Int.reduceNeg, Int.reduceNe, Tryd.TS, Tryd.EV]
    first | (with_reducible refine HCall_mono (c6) ?_; rintro rs rfl) | (with_reducible refine HCallF_mono (c6) (by first | rfl | simp [flatR, RV.flat, RV.isD, Ty.flat]) ?_) | (refine SCall.mono (c6) ?_; rintro rs rfl)
    simp -dsimp -implicitDefEqProofs (disch := omega) only [↓reduceIte, ↓gA, gB, refs, den, hasTy, Ty.cmp, Ty.depth, reduceCtorEq, Nat.reduceAdd, Nat.reduceSub, Nat.reduceMul, Nat.reduceEqDiff, Nat.reduceLT, Nat.reduceLeDiff, Nat.reduceMod, Nat.reduceDiv, Nat.reducePow, Nat.reduceBEq, Int.reduceToNat, Int.reduceLE, Int.reduceLT, Int.reduceEq, Int.reduceAdd, Int.reduceMul, Int.reduceSub, Int.reduceNeg, Int.reduceNe, Tryd.TS, Tryd.EV, u256_inj hR2 hR]
    refine HIf_dec (a := ()) (b := ()) (fun h1 => ?_) (fun h1 => ?_)
    · simp -dsimp -implicitDefEqProofs (disch := omega) only [↓reduceIte, ↓gA, gB, refs, den, hasTy, Ty.cmp, Ty.depth, reduceCtorEq, Nat.reduceAdd, Nat.reduceSub, Nat.reduceMul, Nat.reduceEqDiff, Nat.reduceLT, Nat.reduceLeDiff, Nat.reduceMod, Nat.reduceDiv, Nat.reducePow, Nat.reduceBEq, Int.reduceToNat, Int.reduceLE, Int.reduceLT, Int.reduceEq, Int.reduceAdd, Int.reduceMul, Int.reduceSub, Int.reduceNeg, Int.reduceNe, Tryd.TS, Tryd.EV]
    simp -dsimp -implicitDefEqProofs (disch := omega) only [↓reduceIte, ↓gA, gB, refs, den, hasTy, Ty.cmp, Ty.depth, reduceCtorEq, Nat.reduceAdd, Nat.reduceSub, Nat.reduceMul, Nat.reduceEqDiff, Nat.reduceLT, Nat.reduceLeDiff, Nat.reduceMod, Nat.reduceDiv, Nat.reducePow, Nat.reduceBEq, Int.reduceToNat, Int.reduceLE, Int.reduceLT, Int.reduceEq, Int.reduceAdd, Int.reduceMul, Int.reduceSub, Int.reduceNeg, Int.reduceNe, Tryd.TS, Tryd.EV]
    rcases v with _ | _
    · first | (with_reducible refine HCall_mono (c7) ?_; rintro rs rfl) | (with_reducible refine HCallF_mono (c7) (by first | rfl | simp [flatR, RV.flat, RV.isD, Ty.flat]) ?_) | (refine SCall.mono (c7) ?_; rintro rs rfl)
      simp -dsimp -implicitDefEqProofs (disch := omega) only [↓reduceIte, ↓gA, gB, refs, den, hasTy, Ty.cmp, Ty.depth, reduceCtorEq, Nat.reduceAdd, Nat.reduceSub, Nat.reduceMul, Nat.reduceEqDiff, Nat.reduceLT, Nat.reduceLeDiff, Nat.reduceMod, Nat.reduceDiv, Nat.reducePow, Nat.reduceBEq, Int.reduceToNat, Int.reduceLE, Int.reduceLT, Int.reduceEq, Int.reduceAdd, Int.reduceMul, Int.reduceSub, Int.reduceNeg, Int.reduceNe, Tryd.TS, Tryd.EV]
    have hch3 := hch2 rfl
    clear hch2
    first | (with_reducible refine HCall_mono (c7) ?_; rintro rs rfl) | (with_reducible refine HCallF_mono (c7) (by first | rfl | simp [flatR, RV.flat, RV.isD, Ty.flat]) ?_) | (refine SCall.mono (c7) ?_; rintro rs rfl)
    simp -dsimp -implicitDefEqProofs (disch := omega) only [↓reduceIte, ↓gA, gB, refs, den, hasTy, Ty.cmp, Ty.depth, reduceCtorEq, Nat.reduceAdd, Nat.reduceSub, Nat.reduceMul, Nat.reduceEqDiff, Nat.reduceLT, Nat.reduceLeDiff, Nat.reduceMod, Nat.reduceDiv, Nat.reducePow, Nat.reduceBEq, Int.reduceToNat, Int.reduceLE, Int.reduceLT, Int.reduceEq, Int.reduceAdd, Int.reduceMul, Int.reduceSub, Int.reduceNeg, Int.reduceNe, Tryd.TS, Tryd.EV]
    have hne : r1 ≠ r2 := fun k => h1 (by rw [hcom k])
    have k1 := schallenge r1 x m l1 hX hm hml
    have k2 := schallenge r2 x m l2 hX hm hml
    rw [← hch1] at k1
    rw [← hch3] at k2
    refine sdrawM Tryd.hT (by kernel_rfl) [8, 9] [2, 5] (.alt 0 (.alt 1 (.alt 3 (.alt 4 (.alt 2 (.alt 5 (.alt 6 (.alt 7 (.alt 8 (.alt 9 .nil .nil) .nil) .nil) (.alt 7 (.alt 6 (.alt 8 (.alt 9 .nil .nil) .nil) .nil) .nil)) .nil) .nil) .nil) .nil) .nil) .nil) ⟨89, [(4, .v (.ptr 1 [])), (6, .v (.d .bool (.b false))), (8, .v (.ptr 6 [])), (13, .v (.ptr 16 [])), (14, .v (.ptr 17 []))], [(1, ⟨.arr 32 (.int .u8), .d (.arr 32 (.int .u8)) (.l m)⟩), (6, ⟨.arr 4 (.int .u64), .d (.arr 4 (.int .u64)) (u256 x)⟩), (16, ⟨.arr 4 (.int .u64), .d (.arr 4 (.int .u64)) (u256 r1)⟩), (17, ⟨.arr 4 (.int .u64), .d (.arr 4 (.int .u64)) (u256 r2)⟩)], 18⟩ (by kernel_rfl) (by kernel_rfl) ?_ ?_
    · simp only [tr_alt, tr_nil, tr_nil', gK, ↓reduceIte, Nat.reduceEqDiff]
      simp -dsimp -implicitDefEqProofs (disch := omega) only [↓reduceIte, ↓gA, gB, refs, den, hasTy, Ty.cmp, Ty.depth, reduceCtorEq, Nat.reduceAdd, Nat.reduceSub, Nat.reduceMul, Nat.reduceEqDiff, Nat.reduceLT, Nat.reduceLeDiff, Nat.reduceMod, Nat.reduceDiv, Nat.reducePow, Nat.reduceBEq, Int.reduceToNat, Int.reduceLE, Int.reduceLT, Int.reduceEq, Int.reduceAdd, Int.reduceMul, Int.reduceSub, Int.reduceNeg, Int.reduceNe, Tryd.TS, Tryd.EV, rep4]
      repeat' (first
        | with_reducible refine And.intro ?_ ?_
        | (first | (with_reducible refine HCall_mono (c8) ?_; rintro rs rfl) | (with_reducible refine HCallF_mono (c8) (by first | rfl | simp [flatR, RV.flat, RV.isD, Ty.flat]) ?_)
           simp -dsimp -implicitDefEqProofs (disch := omega) only [↓reduceIte, ↓gA, gB, refs, den, hasTy, Ty.cmp, Ty.depth, reduceCtorEq, Nat.reduceAdd, Nat.reduceSub, Nat.reduceMul, Nat.reduceEqDiff, Nat.reduceLT, Nat.reduceLeDiff, Nat.reduceMod, Nat.reduceDiv, Nat.reducePow, Nat.reduceBEq, Int.reduceToNat, Int.reduceLE, Int.reduceLT, Int.reduceEq, Int.reduceAdd, Int.reduceMul, Int.reduceSub, Int.reduceNeg, Int.reduceNe, Tryd.TS, Tryd.EV, rep4])
        | (first | (with_reducible refine HCall_mono (c9') ?_; rintro rs rfl) | (with_reducible refine HCallF_mono (c9') (by first | rfl | simp [flatR, RV.flat, RV.isD, Ty.flat]) ?_)
           simp -dsimp -implicitDefEqProofs (disch := omega) only [↓reduceIte, ↓gA, gB, refs, den, hasTy, Ty.cmp, Ty.depth, reduceCtorEq, Nat.reduceAdd, Nat.reduceSub, Nat.reduceMul, Nat.reduceEqDiff, Nat.reduceLT, Nat.reduceLeDiff, Nat.reduceMod, Nat.reduceDiv, Nat.reducePow, Nat.reduceBEq, Int.reduceToNat, Int.reduceLE, Int.reduceLT, Int.reduceEq, Int.reduceAdd, Int.reduceMul, Int.reduceSub, Int.reduceNeg, Int.reduceNe, Tryd.TS, Tryd.EV, rep4])
        | with_reducible exact True.intro
        | (first | (refine sub_ren w0 hL0 [(0, 0), (1, 1), (2, 2), (3, 3), (4, 4), (5, 5), (6, 6), (7, 7), (8, 8), (9, 9), (10, 10), (11, 11), (12, 12), (13, 13), (14, 14), (15, 15), (16, 18), (17, 19)] rfl rfl ?_ rfl ?_ ?_; (focus (simp [keysLt]; done)); (focus (simp [renTm, Go.SE.look, renTV, renSV]; done)); (focus (simp [renOb, Go.SE.look, renSV]; done))) | (refine sub_ren w0 hL0 [(0, 0), (1, 1), (2, 2), (3, 3), (4, 4), (5, 5), (6, 6), (7, 7), (8, 8), (9, 9), (10, 10), (11, 11), (12, 12), (13, 13), (14, 14), (15, 15), (16, 19), (17, 18)] rfl rfl ?_ rfl ?_ ?_; (focus (simp [keysLt]; done)); (focus (simp [renTm, Go.SE.look, renTV, renSV]; done)); (focus (simp [renOb, Go.SE.look, renSV]; done)))))
    simp -dsimp -implicitDefEqProofs (disch := omega) only [↓reduceIte, ↓gA, gB, refs, den, hasTy, Ty.cmp, Ty.depth, reduceCtorEq, Nat.reduceAdd, Nat.reduceSub, Nat.reduceMul, Nat.reduceEqDiff, Nat.reduceLT, Nat.reduceLeDiff, Nat.reduceMod, Nat.reduceDiv, Nat.reducePow, Nat.reduceBEq, Int.reduceToNat, Int.reduceLE, Int.reduceLT, Int.reduceEq, Int.reduceAdd, Int.reduceMul, Int.reduceSub, Int.reduceNeg, Int.reduceNe, Tryd.TS, Tryd.EV]
    refine sdraw (id := 15) Tryd.hT (by kernel_rfl) [] [] [0, 1, 2, 3, 4, 5, 6, 8, 9, 10, 7, 11, 12, 13, 14] (by kernel_rfl) (by kernel_rfl) (by kernel_rfl) ?_; simp only [gK, ↓reduceIte, Nat.reduceEqDiff]
    simp -dsimp -implicitDefEqProofs (disch := omega) only [↓reduceIte, ↓gA, gB, refs, den, hasTy, Ty.cmp, Ty.depth, reduceCtorEq, Nat.reduceAdd, Nat.reduceSub, Nat.reduceMul, Nat.reduceEqDiff, Nat.reduceLT, Nat.reduceLeDiff, Nat.reduceMod, Nat.reduceDiv, Nat.reducePow, Nat.reduceBEq, Int.reduceToNat, Int.reduceLE, Int.reduceLT, Int.reduceEq, Int.reduceAdd, Int.reduceMul, Int.reduceSub, Int.reduceNeg, Int.reduceNe, Tryd.TS, Tryd.EV, u256_inj l1 l2]
    refine HIf_ndec (a := ()) (b := ()) (fun h5 => ?_) (fun h5 => ?_)
    · simp -dsimp -implicitDefEqProofs (disch := omega) only [↓reduceIte, ↓gA, gB, refs, den, hasTy, Ty.cmp, Ty.depth, reduceCtorEq, Nat.reduceAdd, Nat.reduceSub, Nat.reduceMul, Nat.reduceEqDiff, Nat.reduceLT, Nat.reduceLeDiff, Nat.reduceMod, Nat.reduceDiv, Nat.reducePow, Nat.reduceBEq, Int.reduceToNat, Int.reduceLE, Int.reduceLT, Int.reduceEq, Int.reduceAdd, Int.reduceMul, Int.reduceSub, Int.reduceNeg, Int.reduceNe, Tryd.TS, Tryd.EV]
      first | (with_reducible refine HCall_mono (k1) ?_; rintro rs rfl) | (with_reducible refine HCallF_mono (k1) (by first | rfl | simp [flatR, RV.flat, RV.isD, Ty.flat]) ?_) | (refine SCall.mono (k1) ?_; rintro rs rfl)
      simp -dsimp -implicitDefEqProofs (disch := omega) only [↓reduceIte, ↓gA, gB, refs, den, hasTy, Ty.cmp, Ty.depth, reduceCtorEq, Nat.reduceAdd, Nat.reduceSub, Nat.reduceMul, Nat.reduceEqDiff, Nat.reduceLT, Nat.reduceLeDiff, Nat.reduceMod, Nat.reduceDiv, Nat.reducePow, Nat.reduceBEq, Int.reduceToNat, Int.reduceLE, Int.reduceLT, Int.reduceEq, Int.reduceAdd, Int.reduceMul, Int.reduceSub, Int.reduceNeg, Int.reduceNe, Tryd.TS, Tryd.EV]
      first | (with_reducible refine HCall_mono (k2) ?_; rintro rs rfl) | (with_reducible refine HCallF_mono (k2) (by first | rfl | simp [flatR, RV.flat, RV.isD, Ty.flat]) ?_) | (refine SCall.mono (k2) ?_; rintro rs rfl)
      simp -dsimp -implicitDefEqProofs (disch := omega) only [↓reduceIte, ↓gA, gB, refs, den, hasTy, Ty.cmp, Ty.depth, reduceCtorEq, Nat.reduceAdd, Nat.reduceSub, Nat.reduceMul, Nat.reduceEqDiff, Nat.reduceLT, Nat.reduceLeDiff, Nat.reduceMod, Nat.reduceDiv, Nat.reducePow, Nat.reduceBEq, Int.reduceToNat, Int.reduceLE, Int.reduceLT, Int.reduceEq, Int.reduceAdd, Int.reduceMul, Int.reduceSub, Int.reduceNeg, Int.reduceNe, Tryd.TS, Tryd.EV]
    · exact absurd h5 hne
end Go.Proofs
/- Integers as bytes. -/
namespace Go.Proofs
open Go.SE

/-- The lowest k bytes of a number. -/
def le (n k : Nat) : List D := (List.range k).map fun i => .n (n / 256 ^ i % 256 : Nat)
theorem le_zero (n : Nat) : le n 0 = [] := rfl
theorem le_succ (n k : Nat) : le n (k + 1) = le n k ++ [.n (n / 256 ^ k % 256 : Nat)] := by simp [le, List.range_succ]
theorem le_length (n k : Nat) : (le n k).length = k := by simp [le]

theorem le_byte (n i : Nat) (hi : i < 8) : IntKind.u8.wrap (Int.fdiv (n : Int) (2 ^ min (8 * (i : Int)).toNat IntKind.u64.bits)) = ((n / 256 ^ i % 256 : Nat) : Int) := by
  have h1 : min (8 * (i : Int)).toNat IntKind.u64.bits = 8 * i := by show min _ 64 = _; omega
  rw [h1, IntKind.wrap_u8]
  have h2 : ((2 : Int) ^ (8 * i)) = ((256 ^ i : Nat) : Int) := by
    rw [show (256 : Nat) = 2 ^ 8 from rfl, ← Nat.pow_mul, Int.natCast_pow]
    rfl
  rw [h2, Int.fdiv_eq_ediv_of_nonneg _ (Int.natCast_nonneg _)]
  rw [Int.natCast_emod, Int.natCast_ediv]
  rfl

set_option maxHeartbeats 2000000 in
theorem put8 (b : List D) (n : Nat) (size : Nat) (hb : b.length ≤ 2 ^ 40) (hs : size ≤ 8) (hn : n < 2 ^ 8) : SCall Tryd.prog 118 [(.sl (.int .u8), .l b), (.int .u8, .n n), (.int .i64, .n size)] (fun rs => rs = [.own (.int .u8) (b ++ le n size)]) := by
  refine scall_intro (n := 31) (rl := [.tmp 6]) (us := [27]) Tryd.hT Tryd.func118 rfl rfl rfl rfl rfl (Nat.le_of_ble_eq_true rfl) ?_
  intro w0 hL0
  simp -dsimp -implicitDefEqProofs (disch := omega) only [↓reduceIte, ↓gA, gB, refs, den, hasTy, Ty.cmp, Ty.depth, reduceCtorEq, Nat.reduceAdd, Nat.reduceSub, Nat.reduceMul, Nat.reduceEqDiff, Nat.reduceLT, Nat.reduceLeDiff, Nat.reduceMod, Nat.reduceDiv, Nat.reducePow, Nat.reduceBEq, Int.reduceToNat, Int.reduceLE, Int.reduceLT, Int.reduceEq, Int.reduceAdd, Int.reduceMul, Int.reduceSub, Int.reduceNeg, Int.reduceNe, Tryd.TS, Tryd.EV]
  repeat (refine And.intro (by omega) ?_)
  refine sloop Tryd.hT (α := Nat) (fun i => ⟨31, [(17, .v (.d (.int .i64) (.n i))), (16, .v (.d (.int .i64) (.n size))), (7, .v (.ref 0 [] 0 (b.length + i))), (1, .v (.d (.int .u8) (.n n)))], [(0, ⟨.arr (b.length + i) (.int .u8), .d (.arr (b.length + i) (.int .u8)) (.l (b ++ le n i))⟩)], 1⟩) (fun i => i ≤ size) (fun i => size - i) 0 ?_ (Nat.zero_le _) ?_
  · refine sub_ren w0 hL0 [(0, 1)] rfl rfl (by simp [keysLt]) rfl ?_ ?_
    · simp [renTm, Go.SE.look, renTV, renSV]
    · simp [renOb, Go.SE.look, renSV, le_zero]
  · intro i hi
    simp -dsimp -implicitDefEqProofs (disch := omega) only [↓reduceIte, ↓gA, gB, refs, den, hasTy, Ty.cmp, Ty.depth, reduceCtorEq, Nat.reduceAdd, Nat.reduceSub, Nat.reduceMul, Nat.reduceEqDiff, Nat.reduceLT, Nat.reduceLeDiff, Nat.reduceMod, Nat.reduceDiv, Nat.reducePow, Nat.reduceBEq, Int.reduceToNat, Int.reduceLE, Int.reduceLT, Int.reduceEq, Int.reduceAdd, Int.reduceMul, Int.reduceSub, Int.reduceNeg, Int.reduceNe, Tryd.TS, Tryd.EV]
    refine HIf_dec (fun h => ?_) (fun h => ?_)
    · simp -dsimp -implicitDefEqProofs (disch := omega) only [↓reduceIte, ↓gA, gB, refs, den, hasTy, Ty.cmp, Ty.depth, reduceCtorEq, Nat.reduceAdd, Nat.reduceSub, Nat.reduceMul, Nat.reduceEqDiff, Nat.reduceLT, Nat.reduceLeDiff, Nat.reduceMod, Nat.reduceDiv, Nat.reducePow, Nat.reduceBEq, Int.reduceToNat, Int.reduceLE, Int.reduceLT, Int.reduceEq, Int.reduceAdd, Int.reduceMul, Int.reduceSub, Int.reduceNeg, Int.reduceNe, Tryd.TS, Tryd.EV, le_byte]
      repeat (refine And.intro (by omega) ?_)
      refine ⟨i + 1, by omega, by omega, ?_⟩
      refine sub_ren w0 hL0 [(0, 2)] rfl rfl (by simp [keysLt]) rfl ?_ ?_
      · simp [renTm, Go.SE.look, renTV, renSV, Nat.add_assoc]
      · simp [renOb, Go.SE.look, renSV, le_succ, Nat.add_assoc]
    · simp -dsimp -implicitDefEqProofs (disch := omega) only [↓reduceIte, ↓gA, gB, refs, den, hasTy, Ty.cmp, Ty.depth, reduceCtorEq, Nat.reduceAdd, Nat.reduceSub, Nat.reduceMul, Nat.reduceEqDiff, Nat.reduceLT, Nat.reduceLeDiff, Nat.reduceMod, Nat.reduceDiv, Nat.reducePow, Nat.reduceBEq, Int.reduceToNat, Int.reduceLE, Int.reduceLT, Int.reduceEq, Int.reduceAdd, Int.reduceMul, Int.reduceSub, Int.reduceNeg, Int.reduceNe, Tryd.TS, Tryd.EV]
      have e : i = size := by omega
      subst e
      rw [List.take_of_length_le (by simp [le_length])]

set_option maxHeartbeats 2000000 in
theorem put16 (b : List D) (n : Nat) (size : Nat) (hb : b.length ≤ 2 ^ 40) (hs : size ≤ 8) (hn : n < 2 ^ 16) : SCall Tryd.prog 119 [(.sl (.int .u8), .l b), (.int .u16, .n n), (.int .i64, .n size)] (fun rs => rs = [.own (.int .u8) (b ++ le n size)]) := by
  refine scall_intro (n := 31) (rl := [.tmp 6]) (us := [27]) Tryd.hT Tryd.func119 rfl rfl rfl rfl rfl (Nat.le_of_ble_eq_true rfl) ?_
  intro w0 hL0
  simp -dsimp -implicitDefEqProofs (disch := omega) only [↓reduceIte, ↓gA, gB, refs, den, hasTy, Ty.cmp, Ty.depth, reduceCtorEq, Nat.reduceAdd, Nat.reduceSub, Nat.reduceMul, Nat.reduceEqDiff, Nat.reduceLT, Nat.reduceLeDiff, Nat.reduceMod, Nat.reduceDiv, Nat.reducePow, Nat.reduceBEq, Int.reduceToNat, Int.reduceLE, Int.reduceLT, Int.reduceEq, Int.reduceAdd, Int.reduceMul, Int.reduceSub, Int.reduceNeg, Int.reduceNe, Tryd.TS, Tryd.EV]
  repeat (refine And.intro (by omega) ?_)
  refine sloop Tryd.hT (α := Nat) (fun i => ⟨31, [(17, .v (.d (.int .i64) (.n i))), (16, .v (.d (.int .i64) (.n size))), (7, .v (.ref 0 [] 0 (b.length + i))), (1, .v (.d (.int .u16) (.n n)))], [(0, ⟨.arr (b.length + i) (.int .u8), .d (.arr (b.length + i) (.int .u8)) (.l (b ++ le n i))⟩)], 1⟩) (fun i => i ≤ size) (fun i => size - i) 0 ?_ (Nat.zero_le _) ?_
  · refine sub_ren w0 hL0 [(0, 1)] rfl rfl (by simp [keysLt]) rfl ?_ ?_
    · simp [renTm, Go.SE.look, renTV, renSV]
    · simp [renOb, Go.SE.look, renSV, le_zero]
  · intro i hi
    simp -dsimp -implicitDefEqProofs (disch := omega) only [↓reduceIte, ↓gA, gB, refs, den, hasTy, Ty.cmp, Ty.depth, reduceCtorEq, Nat.reduceAdd, Nat.reduceSub, Nat.reduceMul, Nat.reduceEqDiff, Nat.reduceLT, Nat.reduceLeDiff, Nat.reduceMod, Nat.reduceDiv, Nat.reducePow, Nat.reduceBEq, Int.reduceToNat, Int.reduceLE, Int.reduceLT, Int.reduceEq, Int.reduceAdd, Int.reduceMul, Int.reduceSub, Int.reduceNeg, Int.reduceNe, Tryd.TS, Tryd.EV]
    refine HIf_dec (fun h => ?_) (fun h => ?_)
    · simp -dsimp -implicitDefEqProofs (disch := omega) only [↓reduceIte, ↓gA, gB, refs, den, hasTy, Ty.cmp, Ty.depth, reduceCtorEq, Nat.reduceAdd, Nat.reduceSub, Nat.reduceMul, Nat.reduceEqDiff, Nat.reduceLT, Nat.reduceLeDiff, Nat.reduceMod, Nat.reduceDiv, Nat.reducePow, Nat.reduceBEq, Int.reduceToNat, Int.reduceLE, Int.reduceLT, Int.reduceEq, Int.reduceAdd, Int.reduceMul, Int.reduceSub, Int.reduceNeg, Int.reduceNe, Tryd.TS, Tryd.EV, le_byte]
      repeat (refine And.intro (by omega) ?_)
      refine ⟨i + 1, by omega, by omega, ?_⟩
      refine sub_ren w0 hL0 [(0, 2)] rfl rfl (by simp [keysLt]) rfl ?_ ?_
      · simp [renTm, Go.SE.look, renTV, renSV, Nat.add_assoc]
      · simp [renOb, Go.SE.look, renSV, le_succ, Nat.add_assoc]
    · simp -dsimp -implicitDefEqProofs (disch := omega) only [↓reduceIte, ↓gA, gB, refs, den, hasTy, Ty.cmp, Ty.depth, reduceCtorEq, Nat.reduceAdd, Nat.reduceSub, Nat.reduceMul, Nat.reduceEqDiff, Nat.reduceLT, Nat.reduceLeDiff, Nat.reduceMod, Nat.reduceDiv, Nat.reducePow, Nat.reduceBEq, Int.reduceToNat, Int.reduceLE, Int.reduceLT, Int.reduceEq, Int.reduceAdd, Int.reduceMul, Int.reduceSub, Int.reduceNeg, Int.reduceNe, Tryd.TS, Tryd.EV]
      have e : i = size := by omega
      subst e
      rw [List.take_of_length_le (by simp [le_length])]

set_option maxHeartbeats 2000000 in
theorem put32 (b : List D) (n : Nat) (size : Nat) (hb : b.length ≤ 2 ^ 40) (hs : size ≤ 8) (hn : n < 2 ^ 32) : SCall Tryd.prog 71 [(.sl (.int .u8), .l b), (.int .u32, .n n), (.int .i64, .n size)] (fun rs => rs = [.own (.int .u8) (b ++ le n size)]) := by
  refine scall_intro (n := 31) (rl := [.tmp 6]) (us := [27]) Tryd.hT Tryd.func71 rfl rfl rfl rfl rfl (Nat.le_of_ble_eq_true rfl) ?_
  intro w0 hL0
  simp -dsimp -implicitDefEqProofs (disch := omega) only [↓reduceIte, ↓gA, gB, refs, den, hasTy, Ty.cmp, Ty.depth, reduceCtorEq, Nat.reduceAdd, Nat.reduceSub, Nat.reduceMul, Nat.reduceEqDiff, Nat.reduceLT, Nat.reduceLeDiff, Nat.reduceMod, Nat.reduceDiv, Nat.reducePow, Nat.reduceBEq, Int.reduceToNat, Int.reduceLE, Int.reduceLT, Int.reduceEq, Int.reduceAdd, Int.reduceMul, Int.reduceSub, Int.reduceNeg, Int.reduceNe, Tryd.TS, Tryd.EV]
  repeat (refine And.intro (by omega) ?_)
  refine sloop Tryd.hT (α := Nat) (fun i => ⟨31, [(17, .v (.d (.int .i64) (.n i))), (16, .v (.d (.int .i64) (.n size))), (7, .v (.ref 0 [] 0 (b.length + i))), (1, .v (.d (.int .u32) (.n n)))], [(0, ⟨.arr (b.length + i) (.int .u8), .d (.arr (b.length + i) (.int .u8)) (.l (b ++ le n i))⟩)], 1⟩) (fun i => i ≤ size) (fun i => size - i) 0 ?_ (Nat.zero_le _) ?_
  · refine sub_ren w0 hL0 [(0, 1)] rfl rfl (by simp [keysLt]) rfl ?_ ?_
    · simp [renTm, Go.SE.look, renTV, renSV]
    · simp [renOb, Go.SE.look, renSV, le_zero]
  · intro i hi
    simp -dsimp -implicitDefEqProofs (disch := omega) only [↓reduceIte, ↓gA, gB, refs, den, hasTy, Ty.cmp, Ty.depth, reduceCtorEq, Nat.reduceAdd, Nat.reduceSub, Nat.reduceMul, Nat.reduceEqDiff, Nat.reduceLT, Nat.reduceLeDiff, Nat.reduceMod, Nat.reduceDiv, Nat.reducePow, Nat.reduceBEq, Int.reduceToNat, Int.reduceLE, Int.reduceLT, Int.reduceEq, Int.reduceAdd, Int.reduceMul, Int.reduceSub, Int.reduceNeg, Int.reduceNe, Tryd.TS, Tryd.EV]
    refine HIf_dec (fun h => ?_) (fun h => ?_)
    · simp -dsimp -implicitDefEqProofs (disch := omega) only [↓reduceIte, ↓gA, gB, refs, den, hasTy, Ty.cmp, Ty.depth, reduceCtorEq, Nat.reduceAdd, Nat.reduceSub, Nat.reduceMul, Nat.reduceEqDiff, Nat.reduceLT, Nat.reduceLeDiff, Nat.reduceMod, Nat.reduceDiv, Nat.reducePow, Nat.reduceBEq, Int.reduceToNat, Int.reduceLE, Int.reduceLT, Int.reduceEq, Int.reduceAdd, Int.reduceMul, Int.reduceSub, Int.reduceNeg, Int.reduceNe, Tryd.TS, Tryd.EV, le_byte]
      repeat (refine And.intro (by omega) ?_)
      refine ⟨i + 1, by omega, by omega, ?_⟩
      refine sub_ren w0 hL0 [(0, 2)] rfl rfl (by simp [keysLt]) rfl ?_ ?_
      · simp [renTm, Go.SE.look, renTV, renSV, Nat.add_assoc]
      · simp [renOb, Go.SE.look, renSV, le_succ, Nat.add_assoc]
    · simp -dsimp -implicitDefEqProofs (disch := omega) only [↓reduceIte, ↓gA, gB, refs, den, hasTy, Ty.cmp, Ty.depth, reduceCtorEq, Nat.reduceAdd, Nat.reduceSub, Nat.reduceMul, Nat.reduceEqDiff, Nat.reduceLT, Nat.reduceLeDiff, Nat.reduceMod, Nat.reduceDiv, Nat.reducePow, Nat.reduceBEq, Int.reduceToNat, Int.reduceLE, Int.reduceLT, Int.reduceEq, Int.reduceAdd, Int.reduceMul, Int.reduceSub, Int.reduceNeg, Int.reduceNe, Tryd.TS, Tryd.EV]
      have e : i = size := by omega
      subst e
      rw [List.take_of_length_le (by simp [le_length])]

set_option maxHeartbeats 2000000 in
theorem put64 (b : List D) (n : Nat) (size : Nat) (hb : b.length ≤ 2 ^ 40) (hs : size ≤ 8) (hn : n < 2 ^ 64) : SCall Tryd.prog 100 [(.sl (.int .u8), .l b), (.int .u64, .n n), (.int .i64, .n size)] (fun rs => rs = [.own (.int .u8) (b ++ le n size)]) := by
  refine scall_intro (n := 30) (rl := [.tmp 6]) (us := [27]) Tryd.hT Tryd.func100 rfl rfl rfl rfl rfl (Nat.le_of_ble_eq_true rfl) ?_
  intro w0 hL0
  simp -dsimp -implicitDefEqProofs (disch := omega) only [↓reduceIte, ↓gA, gB, refs, den, hasTy, Ty.cmp, Ty.depth, reduceCtorEq, Nat.reduceAdd, Nat.reduceSub, Nat.reduceMul, Nat.reduceEqDiff, Nat.reduceLT, Nat.reduceLeDiff, Nat.reduceMod, Nat.reduceDiv, Nat.reducePow, Nat.reduceBEq, Int.reduceToNat, Int.reduceLE, Int.reduceLT, Int.reduceEq, Int.reduceAdd, Int.reduceMul, Int.reduceSub, Int.reduceNeg, Int.reduceNe, Tryd.TS, Tryd.EV]
  repeat (refine And.intro (by omega) ?_)
  refine sloop Tryd.hT (α := Nat) (fun i => ⟨30, [(17, .v (.d (.int .i64) (.n i))), (16, .v (.d (.int .i64) (.n size))), (7, .v (.ref 0 [] 0 (b.length + i))), (1, .v (.d (.int .u64) (.n n)))], [(0, ⟨.arr (b.length + i) (.int .u8), .d (.arr (b.length + i) (.int .u8)) (.l (b ++ le n i))⟩)], 1⟩) (fun i => i ≤ size) (fun i => size - i) 0 ?_ (Nat.zero_le _) ?_
  · refine sub_ren w0 hL0 [(0, 1)] rfl rfl (by simp [keysLt]) rfl ?_ ?_
    · simp [renTm, Go.SE.look, renTV, renSV]
    · simp [renOb, Go.SE.look, renSV, le_zero]
  · intro i hi
    simp -dsimp -implicitDefEqProofs (disch := omega) only [↓reduceIte, ↓gA, gB, refs, den, hasTy, Ty.cmp, Ty.depth, reduceCtorEq, Nat.reduceAdd, Nat.reduceSub, Nat.reduceMul, Nat.reduceEqDiff, Nat.reduceLT, Nat.reduceLeDiff, Nat.reduceMod, Nat.reduceDiv, Nat.reducePow, Nat.reduceBEq, Int.reduceToNat, Int.reduceLE, Int.reduceLT, Int.reduceEq, Int.reduceAdd, Int.reduceMul, Int.reduceSub, Int.reduceNeg, Int.reduceNe, Tryd.TS, Tryd.EV]
    refine HIf_dec (fun h => ?_) (fun h => ?_)
    · simp -dsimp -implicitDefEqProofs (disch := omega) only [↓reduceIte, ↓gA, gB, refs, den, hasTy, Ty.cmp, Ty.depth, reduceCtorEq, Nat.reduceAdd, Nat.reduceSub, Nat.reduceMul, Nat.reduceEqDiff, Nat.reduceLT, Nat.reduceLeDiff, Nat.reduceMod, Nat.reduceDiv, Nat.reducePow, Nat.reduceBEq, Int.reduceToNat, Int.reduceLE, Int.reduceLT, Int.reduceEq, Int.reduceAdd, Int.reduceMul, Int.reduceSub, Int.reduceNeg, Int.reduceNe, Tryd.TS, Tryd.EV, le_byte]
      repeat (refine And.intro (by omega) ?_)
      refine ⟨i + 1, by omega, by omega, ?_⟩
      refine sub_ren w0 hL0 [(0, 2)] rfl rfl (by simp [keysLt]) rfl ?_ ?_
      · simp [renTm, Go.SE.look, renTV, renSV, Nat.add_assoc]
      · simp [renOb, Go.SE.look, renSV, le_succ, Nat.add_assoc]
    · simp -dsimp -implicitDefEqProofs (disch := omega) only [↓reduceIte, ↓gA, gB, refs, den, hasTy, Ty.cmp, Ty.depth, reduceCtorEq, Nat.reduceAdd, Nat.reduceSub, Nat.reduceMul, Nat.reduceEqDiff, Nat.reduceLT, Nat.reduceLeDiff, Nat.reduceMod, Nat.reduceDiv, Nat.reducePow, Nat.reduceBEq, Int.reduceToNat, Int.reduceLE, Int.reduceLT, Int.reduceEq, Int.reduceAdd, Int.reduceMul, Int.reduceSub, Int.reduceNeg, Int.reduceNe, Tryd.TS, Tryd.EV]
      have e : i = size := by omega
      subst e
      rw [List.take_of_length_le (by simp [le_length])]

end Go.Proofs
/- Reading integers. -/
namespace Go.Proofs
open Go.SE

def num (b : List D) (a : Nat) : Nat → Nat
  | 0 => 0
  | k + 1 => byt b a + 256 * num b (a + 1) k
theorem num_snoc (b : List D) : ∀ (k a : Nat), num b a (k + 1) = num b a k + byt b (a + k) * 256 ^ k
  | 0, a => by simp [num]
  | k + 1, a => by
    rw [num, num_snoc b k (a + 1), num, show a + 1 + k = a + (k + 1) by omega, Nat.pow_succ]
    rw [Nat.mul_add, Nat.add_assoc, Nat.mul_left_comm, Nat.mul_comm 256 (256 ^ k)]
theorem num_lt {b : List D} (h : BY b) : ∀ (k a : Nat), num b a k < 256 ^ k
  | 0, a => by simp [num]
  | k + 1, a => by
    have h1 := h.lt a
    have h2 := num_lt h k (a + 1)
    rw [num, Nat.pow_succ]
    omega

theorem shl_byte (v i : Nat) (hv : v < 256) (hi : i < 8) : IntKind.u64.wrap ((v : Int) * 2 ^ min (8 * (i : Int)).toNat IntKind.u64.bits) = ((v * 256 ^ i : Nat) : Int) := by
  have h1 : min (8 * (i : Int)).toNat IntKind.u64.bits = 8 * i := by show min _ 64 = _; omega
  have h2 : ((2 : Int) ^ (8 * i)) = ((256 ^ i : Nat) : Int) := by
    rw [show (256 : Nat) = 2 ^ 8 from rfl, ← Nat.pow_mul, Int.natCast_pow]
    rfl
  have h3 : v * 256 ^ i < 2 ^ 64 := by
    have h4 : 256 ^ i ≤ 256 ^ 7 := Nat.pow_le_pow_right (by omega) (by omega)
    have h5 : v * 256 ^ i ≤ 255 * 256 ^ 7 := Nat.mul_le_mul (by omega) h4
    omega
  rw [h1, h2, ← Int.natCast_mul, IntWalk.u64_in _ (by omega)]
theorem or_byte {b : List D} (h : BY b) (a i : Nat) (hi : i < 8) : bits .or .u64 (num b a i : Int) (IntKind.u64.wrap ((byt b (a + i) : Int) * 2 ^ min (8 * (i : Int)).toNat IntKind.u64.bits)) = (num b a (i + 1) : Int) := by
  have h1 := h.lt (a + i)
  have h2 := num_lt h i a
  have h3 : 256 ^ i ≤ 256 ^ 7 := Nat.pow_le_pow_right (by omega) (by omega)
  have h4 : byt b (a + i) * 256 ^ i ≤ 255 * 256 ^ 7 := Nat.mul_le_mul (by omega) h3
  rw [shl_byte _ _ h1 hi, u64_or_nat _ _ (by omega) (by omega), num_snoc]
  congr 1
  rw [Nat.or_comm]
  have h5 : (256 : Nat) ^ i = 2 ^ (8 * i) := by rw [show (256 : Nat) = 2 ^ 8 from rfl, ← Nat.pow_mul]
  rw [h5] at h2 ⊢
  rw [Nat.mul_comm, ← Nat.two_pow_add_eq_or_of_lt h2, Nat.add_comm]

/-- What is read at a place: the number, the place behind it, the error. -/
def getR (b : List D) (at' : Int) (k : Nat) : Nat × Int × Int :=
  if at' < 0 ∨ b.length < at' then (0, 0, 5) else if b.length - at' < k then (0, 0, 1) else (num b at'.toNat k, at' + k, 0)

end Go.Proofs
/- The reference: numbers, joined rows. -/
namespace Go.Proofs
open Go.SE

theorem or_front {b : List D} (h : BY b) (a k : Nat) (hk : k < 8) : bits .or .u64 (IntKind.u64.wrap ((num b (a + 1) k : Int) * 2 ^ min 8 IntKind.u64.bits)) (byt b a : Int) = (num b a (k + 1) : Int) := by
  have h1 := h.lt a
  have h2 := num_lt h k (a + 1)
  have h3 : 256 ^ k ≤ 256 ^ 7 := Nat.pow_le_pow_right (by omega) (by omega)
  have e : ((2 : Int) ^ min 8 IntKind.u64.bits) = ((256 : Nat) : Int) := rfl
  rw [e, ← Int.natCast_mul, IntWalk.u64_in _ (by omega), u64_or_nat _ _ (by omega) (by omega), num]
  congr 1
  have := Nat.two_pow_add_eq_or_of_lt (i := 8) h1 (num b (a + 1) k)
  rw [Nat.mul_comm, show (256 : Nat) = 2 ^ 8 from rfl, ← this, Nat.add_comm]

set_option maxHeartbeats 2000000 in
theorem joinedN (a b : List D) (hab : a.length + b.length ≤ 140737488351232) :
    SCall Tryd.prog 93 [(.sl (.int .u8), .l a), (.sl (.int .u8), .l b)] (fun rs => rs = [.own (.int .u8) (a ++ b)]) := by
  refine scall_intro (n := 17) (rl := [.tmp 4]) (us := [27]) Tryd.hT Tryd.func93 rfl rfl rfl rfl rfl (Nat.le_of_ble_eq_true rfl) ?_
  intro w0 hL0
  simp -dsimp -implicitDefEqProofs (disch := omega) only [↓reduceIte, ↓gA, gB, refs, den, hasTy, Ty.cmp, Ty.depth, reduceCtorEq, Nat.reduceAdd, Nat.reduceSub, Nat.reduceMul, Nat.reduceEqDiff, Nat.reduceLT, Nat.reduceLeDiff, Nat.reduceMod, Nat.reduceDiv, Nat.reducePow, Nat.reduceBEq, Int.reduceToNat, Int.reduceLE, Int.reduceLT, Int.reduceEq, Int.reduceAdd, Int.reduceMul, Int.reduceSub, Int.reduceNeg, Int.reduceNe, Tryd.TS, Tryd.EV]
  simp only [List.length_append]
  repeat (first | omega | exact True.intro | (refine And.intro (by omega) ?_))

theorem joined' (a b : List D) (ha : a.length ≤ 2 ^ 45) (hb : b.length ≤ 2 ^ 45) :
    SCall Tryd.prog 93 [(.sl (.int .u8), .l a), (.sl (.int .u8), .l b)] (fun rs => rs = [.own (.int .u8) (a ++ b)]) := joinedN a b (by omega)

end Go.Proofs
/- Sizes. -/
namespace Go.Proofs
open Go.SE

theorem getR_cases (b : List D) (p : Int) (k : Nat) : (∃ e : Int, (e = 5 ∨ e = 1) ∧ getR b p k = (0, 0, e)) ∨ (∃ a : Nat, p = a ∧ a + k ≤ b.length ∧ getR b p k = (num b a k, (a : Int) + k, 0)) := by
  unfold getR
  split
  · exact .inl ⟨5, .inl rfl, rfl⟩
  · split
    · exact .inl ⟨1, .inr rfl, rfl⟩
    · refine .inr ⟨p.toNat, by omega, by omega, ?_⟩
      rw [show ((p.toNat : Nat) : Int) = p by omega]

def fin (r : Nat × Int × Int) (least most : Nat) : Nat × Int × Int :=
  if r.2.2 ≠ 0 then (0, 0, r.2.2) else if r.1 < least then (0, 0, 3) else if most < r.1 then (0, 0, 4) else (r.1, r.2.1, 0)
/-- A size that is read at a place. -/
def sizeR (b : List D) (p : Int) (most : Nat) : Nat × Int × Int :=
  if (getR b p 1).2.2 ≠ 0 then (0, 0, (getR b p 1).2.2)
  else if (getR b p 1).1 = 253 then fin (getR b (p + 1) 2) 253 most
  else if (getR b p 1).1 = 254 then fin (getR b (p + 1) 4) 65536 most
  else if (getR b p 1).1 = 255 then fin (getR b (p + 1) 8) 4294967296 most
  else fin ((getR b p 1).1, p + 1, 0) 0 most

end Go.Proofs
/- The reference's size. -/
namespace Go.Proofs
open Go.SE

theorem shl_2 : IntKind.i64.wrap (2 * 2 ^ min 0 IntKind.i64.bits) = 2 := rfl
theorem shl_4 : IntKind.i64.wrap (2 * 2 ^ min 1 IntKind.i64.bits) = 4 := rfl
theorem shl_8 : IntKind.i64.wrap (2 * 2 ^ min 2 IntKind.i64.bits) = 8 := rfl

end Go.Proofs
/- What is appended. -/
namespace Go.Proofs
open Go.SE

/-- A size's bytes. -/
def asz (n : Nat) : List D := if n < 253 then le n 1 else if n < 65536 then .n 253 :: le n 2 else if n < 4294967296 then .n 254 :: le n 4 else .n 255 :: le n 8
theorem asz_length (n : Nat) : (asz n).length ≤ 9 := by
  unfold asz
  repeat' split
  all_goals simp [le_length]
theorem le_253 : le 253 1 = [.n 253] := rfl
theorem le_254 : le 254 1 = [.n 254] := rfl
theorem le_255 : le 255 1 = [.n 255] := rfl

set_option maxHeartbeats 2000000 in
theorem appendSize' (b : List D) (n : Nat) (hb : b.length ≤ 2 ^ 39) (hn : n < 2 ^ 64) : SCall Tryd.prog 99 [(.sl (.int .u8), .l b), (.int .u64, .n n)] (fun rs => rs = [.own (.int .u8) (b ++ asz n)]) := by
  refine scall_intro (n := 32) (rl := [.tmp 4]) (us := [27]) Tryd.hT Tryd.func99 rfl rfl rfl rfl rfl (Nat.le_of_ble_eq_true rfl) ?_
  intro w0 hL0
  simp -dsimp -implicitDefEqProofs (disch := omega) only [↓reduceIte, ↓gA, gB, refs, den, hasTy, Ty.cmp, Ty.depth, reduceCtorEq, Nat.reduceAdd, Nat.reduceSub, Nat.reduceMul, Nat.reduceEqDiff, Nat.reduceLT, Nat.reduceLeDiff, Nat.reduceMod, Nat.reduceDiv, Nat.reducePow, Nat.reduceBEq, Int.reduceToNat, Int.reduceLE, Int.reduceLT, Int.reduceEq, Int.reduceAdd, Int.reduceMul, Int.reduceSub, Int.reduceNeg, Int.reduceNe, Tryd.TS, Tryd.EV]
  refine HIf_dec (fun h => ?_) (fun h1 => ?_)
  · simp -dsimp -implicitDefEqProofs (disch := omega) only [↓reduceIte, ↓gA, gB, refs, den, hasTy, Ty.cmp, Ty.depth, reduceCtorEq, Nat.reduceAdd, Nat.reduceSub, Nat.reduceMul, Nat.reduceEqDiff, Nat.reduceLT, Nat.reduceLeDiff, Nat.reduceMod, Nat.reduceDiv, Nat.reducePow, Nat.reduceBEq, Int.reduceToNat, Int.reduceLE, Int.reduceLT, Int.reduceEq, Int.reduceAdd, Int.reduceMul, Int.reduceSub, Int.reduceNeg, Int.reduceNe, Tryd.TS, Tryd.EV]
    refine SCall.mono (put8 b n 1 (by omega) (by omega) (by omega)) ?_
    rintro rs rfl
    simp -dsimp -implicitDefEqProofs (disch := omega) only [↓reduceIte, ↓gA, gB, refs, den, hasTy, Ty.cmp, Ty.depth, reduceCtorEq, Nat.reduceAdd, Nat.reduceSub, Nat.reduceMul, Nat.reduceEqDiff, Nat.reduceLT, Nat.reduceLeDiff, Nat.reduceMod, Nat.reduceDiv, Nat.reducePow, Nat.reduceBEq, Int.reduceToNat, Int.reduceLE, Int.reduceLT, Int.reduceEq, Int.reduceAdd, Int.reduceMul, Int.reduceSub, Int.reduceNeg, Int.reduceNe, Tryd.TS, Tryd.EV]
    simp [asz, show n < 253 by omega]
  simp -dsimp -implicitDefEqProofs (disch := omega) only [↓reduceIte, ↓gA, gB, refs, den, hasTy, Ty.cmp, Ty.depth, reduceCtorEq, Nat.reduceAdd, Nat.reduceSub, Nat.reduceMul, Nat.reduceEqDiff, Nat.reduceLT, Nat.reduceLeDiff, Nat.reduceMod, Nat.reduceDiv, Nat.reducePow, Nat.reduceBEq, Int.reduceToNat, Int.reduceLE, Int.reduceLT, Int.reduceEq, Int.reduceAdd, Int.reduceMul, Int.reduceSub, Int.reduceNeg, Int.reduceNe, Tryd.TS, Tryd.EV]
  refine HIf_dec (fun h => ?_) (fun h2 => ?_)
  · simp -dsimp -implicitDefEqProofs (disch := omega) only [↓reduceIte, ↓gA, gB, refs, den, hasTy, Ty.cmp, Ty.depth, reduceCtorEq, Nat.reduceAdd, Nat.reduceSub, Nat.reduceMul, Nat.reduceEqDiff, Nat.reduceLT, Nat.reduceLeDiff, Nat.reduceMod, Nat.reduceDiv, Nat.reducePow, Nat.reduceBEq, Int.reduceToNat, Int.reduceLE, Int.reduceLT, Int.reduceEq, Int.reduceAdd, Int.reduceMul, Int.reduceSub, Int.reduceNeg, Int.reduceNe, Tryd.TS, Tryd.EV]
    refine SCall.mono (put8 b 253 1 (by omega) (by omega) (by omega)) ?_
    rintro rs rfl
    rw [le_253]
    simp -dsimp -implicitDefEqProofs (disch := omega) only [↓reduceIte, ↓gA, gB, refs, den, hasTy, Ty.cmp, Ty.depth, reduceCtorEq, Nat.reduceAdd, Nat.reduceSub, Nat.reduceMul, Nat.reduceEqDiff, Nat.reduceLT, Nat.reduceLeDiff, Nat.reduceMod, Nat.reduceDiv, Nat.reducePow, Nat.reduceBEq, Int.reduceToNat, Int.reduceLE, Int.reduceLT, Int.reduceEq, Int.reduceAdd, Int.reduceMul, Int.reduceSub, Int.reduceNeg, Int.reduceNe, Tryd.TS, Tryd.EV]
    refine SCall.mono (put16 (b ++ [.n 253]) n 2 (by simp; omega) (by omega) (by omega)) ?_
    rintro rs rfl
    simp -dsimp -implicitDefEqProofs (disch := omega) only [↓reduceIte, ↓gA, gB, refs, den, hasTy, Ty.cmp, Ty.depth, reduceCtorEq, Nat.reduceAdd, Nat.reduceSub, Nat.reduceMul, Nat.reduceEqDiff, Nat.reduceLT, Nat.reduceLeDiff, Nat.reduceMod, Nat.reduceDiv, Nat.reducePow, Nat.reduceBEq, Int.reduceToNat, Int.reduceLE, Int.reduceLT, Int.reduceEq, Int.reduceAdd, Int.reduceMul, Int.reduceSub, Int.reduceNeg, Int.reduceNe, Tryd.TS, Tryd.EV]
    simp [asz, show ¬ n < 253 by omega, show n < 65536 by omega]
  simp -dsimp -implicitDefEqProofs (disch := omega) only [↓reduceIte, ↓gA, gB, refs, den, hasTy, Ty.cmp, Ty.depth, reduceCtorEq, Nat.reduceAdd, Nat.reduceSub, Nat.reduceMul, Nat.reduceEqDiff, Nat.reduceLT, Nat.reduceLeDiff, Nat.reduceMod, Nat.reduceDiv, Nat.reducePow, Nat.reduceBEq, Int.reduceToNat, Int.reduceLE, Int.reduceLT, Int.reduceEq, Int.reduceAdd, Int.reduceMul, Int.reduceSub, Int.reduceNeg, Int.reduceNe, Tryd.TS, Tryd.EV]
  refine HIf_dec (fun h => ?_) (fun h3 => ?_)
  · simp -dsimp -implicitDefEqProofs (disch := omega) only [↓reduceIte, ↓gA, gB, refs, den, hasTy, Ty.cmp, Ty.depth, reduceCtorEq, Nat.reduceAdd, Nat.reduceSub, Nat.reduceMul, Nat.reduceEqDiff, Nat.reduceLT, Nat.reduceLeDiff, Nat.reduceMod, Nat.reduceDiv, Nat.reducePow, Nat.reduceBEq, Int.reduceToNat, Int.reduceLE, Int.reduceLT, Int.reduceEq, Int.reduceAdd, Int.reduceMul, Int.reduceSub, Int.reduceNeg, Int.reduceNe, Tryd.TS, Tryd.EV]
    refine SCall.mono (put8 b 254 1 (by omega) (by omega) (by omega)) ?_
    rintro rs rfl
    rw [le_254]
    simp -dsimp -implicitDefEqProofs (disch := omega) only [↓reduceIte, ↓gA, gB, refs, den, hasTy, Ty.cmp, Ty.depth, reduceCtorEq, Nat.reduceAdd, Nat.reduceSub, Nat.reduceMul, Nat.reduceEqDiff, Nat.reduceLT, Nat.reduceLeDiff, Nat.reduceMod, Nat.reduceDiv, Nat.reducePow, Nat.reduceBEq, Int.reduceToNat, Int.reduceLE, Int.reduceLT, Int.reduceEq, Int.reduceAdd, Int.reduceMul, Int.reduceSub, Int.reduceNeg, Int.reduceNe, Tryd.TS, Tryd.EV]
    refine SCall.mono (put32 (b ++ [.n 254]) n 4 (by simp; omega) (by omega) (by omega)) ?_
    rintro rs rfl
    simp -dsimp -implicitDefEqProofs (disch := omega) only [↓reduceIte, ↓gA, gB, refs, den, hasTy, Ty.cmp, Ty.depth, reduceCtorEq, Nat.reduceAdd, Nat.reduceSub, Nat.reduceMul, Nat.reduceEqDiff, Nat.reduceLT, Nat.reduceLeDiff, Nat.reduceMod, Nat.reduceDiv, Nat.reducePow, Nat.reduceBEq, Int.reduceToNat, Int.reduceLE, Int.reduceLT, Int.reduceEq, Int.reduceAdd, Int.reduceMul, Int.reduceSub, Int.reduceNeg, Int.reduceNe, Tryd.TS, Tryd.EV]
    simp [asz, show ¬ n < 253 by omega, show ¬ n < 65536 by omega, show n < 4294967296 by omega]
  simp -dsimp -implicitDefEqProofs (disch := omega) only [↓reduceIte, ↓gA, gB, refs, den, hasTy, Ty.cmp, Ty.depth, reduceCtorEq, Nat.reduceAdd, Nat.reduceSub, Nat.reduceMul, Nat.reduceEqDiff, Nat.reduceLT, Nat.reduceLeDiff, Nat.reduceMod, Nat.reduceDiv, Nat.reducePow, Nat.reduceBEq, Int.reduceToNat, Int.reduceLE, Int.reduceLT, Int.reduceEq, Int.reduceAdd, Int.reduceMul, Int.reduceSub, Int.reduceNeg, Int.reduceNe, Tryd.TS, Tryd.EV]
  refine SCall.mono (put8 b 255 1 (by omega) (by omega) (by omega)) ?_
  rintro rs rfl
  rw [le_255]
  simp -dsimp -implicitDefEqProofs (disch := omega) only [↓reduceIte, ↓gA, gB, refs, den, hasTy, Ty.cmp, Ty.depth, reduceCtorEq, Nat.reduceAdd, Nat.reduceSub, Nat.reduceMul, Nat.reduceEqDiff, Nat.reduceLT, Nat.reduceLeDiff, Nat.reduceMod, Nat.reduceDiv, Nat.reducePow, Nat.reduceBEq, Int.reduceToNat, Int.reduceLE, Int.reduceLT, Int.reduceEq, Int.reduceAdd, Int.reduceMul, Int.reduceSub, Int.reduceNeg, Int.reduceNe, Tryd.TS, Tryd.EV]
  refine SCall.mono (put64 (b ++ [.n 255]) n 8 (by simp; omega) (by omega) (by omega)) ?_
  rintro rs rfl
  simp -dsimp -implicitDefEqProofs (disch := omega) only [↓reduceIte, ↓gA, gB, refs, den, hasTy, Ty.cmp, Ty.depth, reduceCtorEq, Nat.reduceAdd, Nat.reduceSub, Nat.reduceMul, Nat.reduceEqDiff, Nat.reduceLT, Nat.reduceLeDiff, Nat.reduceMod, Nat.reduceDiv, Nat.reducePow, Nat.reduceBEq, Int.reduceToNat, Int.reduceLE, Int.reduceLT, Int.reduceEq, Int.reduceAdd, Int.reduceMul, Int.reduceSub, Int.reduceNeg, Int.reduceNe, Tryd.TS, Tryd.EV]
  simp [asz, show ¬ n < 253 by omega, show ¬ n < 65536 by omega, show ¬ n < 4294967296 by omega]

set_option maxHeartbeats 2000000 in
theorem appendU32 (b : List D) (n : Nat) (hb : b.length ≤ 2 ^ 39) (hn : n < 2 ^ 32) : SCall Tryd.prog 34 [(.sl (.int .u8), .l b), (.int .u32, .n n)] (fun rs => rs = [.own (.int .u8) (b ++ le n 4)]) := by
  refine scall_intro (n := 8) (rl := [.tmp 4]) (us := [27]) Tryd.hT Tryd.func34 rfl rfl rfl rfl rfl (Nat.le_of_ble_eq_true rfl) ?_
  intro w0 hL0
  simp -dsimp -implicitDefEqProofs (disch := omega) only [↓reduceIte, ↓gA, gB, refs, den, hasTy, Ty.cmp, Ty.depth, reduceCtorEq, Nat.reduceAdd, Nat.reduceSub, Nat.reduceMul, Nat.reduceEqDiff, Nat.reduceLT, Nat.reduceLeDiff, Nat.reduceMod, Nat.reduceDiv, Nat.reducePow, Nat.reduceBEq, Int.reduceToNat, Int.reduceLE, Int.reduceLT, Int.reduceEq, Int.reduceAdd, Int.reduceMul, Int.reduceSub, Int.reduceNeg, Int.reduceNe, Tryd.TS, Tryd.EV]
  refine SCall.mono (put32 b n 4 (by omega) (by omega) (by omega)) ?_
  rintro rs rfl
  simp -dsimp -implicitDefEqProofs (disch := omega) only [↓reduceIte, ↓gA, gB, refs, den, hasTy, Ty.cmp, Ty.depth, reduceCtorEq, Nat.reduceAdd, Nat.reduceSub, Nat.reduceMul, Nat.reduceEqDiff, Nat.reduceLT, Nat.reduceLeDiff, Nat.reduceMod, Nat.reduceDiv, Nat.reducePow, Nat.reduceBEq, Int.reduceToNat, Int.reduceLE, Int.reduceLT, Int.reduceEq, Int.reduceAdd, Int.reduceMul, Int.reduceSub, Int.reduceNeg, Int.reduceNe, Tryd.TS, Tryd.EV]

set_option maxHeartbeats 2000000 in
theorem appendU64 (b : List D) (n : Nat) (hb : b.length ≤ 2 ^ 39) (hn : n < 2 ^ 64) : SCall Tryd.prog 73 [(.sl (.int .u8), .l b), (.int .u64, .n n)] (fun rs => rs = [.own (.int .u8) (b ++ le n 8)]) := by
  refine scall_intro (n := 8) (rl := [.tmp 4]) (us := [27]) Tryd.hT Tryd.func73 rfl rfl rfl rfl rfl (Nat.le_of_ble_eq_true rfl) ?_
  intro w0 hL0
  simp -dsimp -implicitDefEqProofs (disch := omega) only [↓reduceIte, ↓gA, gB, refs, den, hasTy, Ty.cmp, Ty.depth, reduceCtorEq, Nat.reduceAdd, Nat.reduceSub, Nat.reduceMul, Nat.reduceEqDiff, Nat.reduceLT, Nat.reduceLeDiff, Nat.reduceMod, Nat.reduceDiv, Nat.reducePow, Nat.reduceBEq, Int.reduceToNat, Int.reduceLE, Int.reduceLT, Int.reduceEq, Int.reduceAdd, Int.reduceMul, Int.reduceSub, Int.reduceNeg, Int.reduceNe, Tryd.TS, Tryd.EV]
  refine SCall.mono (put64 b n 8 (by omega) (by omega) (by omega)) ?_
  rintro rs rfl
  simp -dsimp -implicitDefEqProofs (disch := omega) only [↓reduceIte, ↓gA, gB, refs, den, hasTy, Ty.cmp, Ty.depth, reduceCtorEq, Nat.reduceAdd, Nat.reduceSub, Nat.reduceMul, Nat.reduceEqDiff, Nat.reduceLT, Nat.reduceLeDiff, Nat.reduceMod, Nat.reduceDiv, Nat.reducePow, Nat.reduceBEq, Int.reduceToNat, Int.reduceLE, Int.reduceLT, Int.reduceEq, Int.reduceAdd, Int.reduceMul, Int.reduceSub, Int.reduceNeg, Int.reduceNe, Tryd.TS, Tryd.EV]

set_option maxHeartbeats 2000000 in
theorem same' (a b : List D) : SCall Tryd.prog 22 [(.sl (.int .u8), .l a), (.sl (.int .u8), .l b)] (fun rs => rs = [.d .bool (.b ((toBA (.l a)).toList == (toBA (.l b)).toList))]) := by
  refine scall_intro (n := 10) (rl := [.tmp 4]) (us := [4]) Tryd.hT Tryd.func22 rfl rfl rfl rfl rfl (Nat.le_of_ble_eq_true rfl) ?_
  intro w0 hL0
  simp -dsimp -implicitDefEqProofs (disch := omega) only [↓reduceIte, ↓gA, gB, refs, den, hasTy, Ty.cmp, Ty.depth, reduceCtorEq, Nat.reduceAdd, Nat.reduceSub, Nat.reduceMul, Nat.reduceEqDiff, Nat.reduceLT, Nat.reduceLeDiff, Nat.reduceMod, Nat.reduceDiv, Nat.reducePow, Nat.reduceBEq, Int.reduceToNat, Int.reduceLE, Int.reduceLT, Int.reduceEq, Int.reduceAdd, Int.reduceMul, Int.reduceSub, Int.reduceNeg, Int.reduceNe, Tryd.TS, Tryd.EV]

set_option maxHeartbeats 2000000 in
theorem appendBytes' (b s : List D) (hb : b.length ≤ 2 ^ 39) (hs : s.length ≤ 2 ^ 40) : SCall Tryd.prog 72 [(.sl (.int .u8), .l b), (.sl (.int .u8), .l s)] (fun rs => rs = [.own (.int .u8) (b ++ asz s.length ++ s)]) := by
  refine scall_intro (n := 12) (rl := [.tmp 4]) (us := [27]) Tryd.hT Tryd.func72 rfl rfl rfl rfl rfl (Nat.le_of_ble_eq_true rfl) ?_
  intro w0 hL0
  simp -dsimp -implicitDefEqProofs (disch := omega) only [↓reduceIte, ↓gA, gB, refs, den, hasTy, Ty.cmp, Ty.depth, reduceCtorEq, Nat.reduceAdd, Nat.reduceSub, Nat.reduceMul, Nat.reduceEqDiff, Nat.reduceLT, Nat.reduceLeDiff, Nat.reduceMod, Nat.reduceDiv, Nat.reducePow, Nat.reduceBEq, Int.reduceToNat, Int.reduceLE, Int.reduceLT, Int.reduceEq, Int.reduceAdd, Int.reduceMul, Int.reduceSub, Int.reduceNeg, Int.reduceNe, Tryd.TS, Tryd.EV]
  refine SCall.mono (appendSize' b s.length (by omega) (by omega)) ?_
  rintro rs rfl
  have := asz_length s.length
  simp -dsimp -implicitDefEqProofs (disch := omega) only [↓reduceIte, ↓gA, gB, refs, den, hasTy, Ty.cmp, Ty.depth, reduceCtorEq, Nat.reduceAdd, Nat.reduceSub, Nat.reduceMul, Nat.reduceEqDiff, Nat.reduceLT, Nat.reduceLeDiff, Nat.reduceMod, Nat.reduceDiv, Nat.reducePow, Nat.reduceBEq, Int.reduceToNat, Int.reduceLE, Int.reduceLT, Int.reduceEq, Int.reduceAdd, Int.reduceMul, Int.reduceSub, Int.reduceNeg, Int.reduceNe, Tryd.TS, Tryd.EV]
  simp only [List.length_append]
  repeat (first | omega | exact True.intro | (refine And.intro (by omega) ?_))

set_option maxHeartbeats 2000000 in
theorem appendHash' (b h : List D) (hb : b.length ≤ 2 ^ 39) (hh : h.length = 32) : SCall Tryd.prog 70 [(.sl (.int .u8), .l b), (.arr 32 (.int .u8), .l h)] (fun rs => rs = [.own (.int .u8) (b ++ h)]) := by
  refine scall_intro (n := 15) (rl := [.tmp 4]) (us := [27]) Tryd.hT Tryd.func70 rfl rfl rfl rfl rfl (Nat.le_of_ble_eq_true rfl) ?_
  intro w0 hL0
  have ht : h.take 32 = h := List.take_of_length_le (by omega)
  simp -dsimp -implicitDefEqProofs (disch := omega) only [↓reduceIte, ↓gA, gB, refs, den, hasTy, Ty.cmp, Ty.depth, reduceCtorEq, Nat.reduceAdd, Nat.reduceSub, Nat.reduceMul, Nat.reduceEqDiff, Nat.reduceLT, Nat.reduceLeDiff, Nat.reduceMod, Nat.reduceDiv, Nat.reducePow, Nat.reduceBEq, Int.reduceToNat, Int.reduceLE, Int.reduceLT, Int.reduceEq, Int.reduceAdd, Int.reduceMul, Int.reduceSub, Int.reduceNeg, Int.reduceNe, Tryd.TS, Tryd.EV, ht]
  simp only [List.length_append]
  repeat (first | omega | exact True.intro | (refine And.intro (by omega) ?_))

end Go.Proofs
/- Signatures as bytes. -/
namespace Go.Proofs
open Go.SE

def sgT : Ty := .cons (.arr 4 (.int .u64)) (.cons (.arr 4 (.int .u64)) .nil)

set_option maxHeartbeats 4000000 in
theorem sencode (c z : Nat) (hc : c < 115792089237316195423570985008687907853269984665640564039457584007913129639936) (hz : z < 115792089237316195423570985008687907853269984665640564039457584007913129639936) : SCall Tryd.prog 23 [(.cons (.arr 4 (.int .u64)) (.cons (.arr 4 (.int .u64)) .nil), .l [u256 c, u256 z])] (fun rs => rs = [.own (.int .u8) (toB c ++ toB z)]) := by
  have c1 := wbytes c hc
  have c2 := wbytes z hz
  have c3 := row2 (toB c) (toB z) (toB_len c) (toB_len z)
  generalize toB c = b1 at *
  generalize toB z = b2 at *
  refine scall_intro (n := 11) (rl := [.tmp 2]) (us := [27]) Tryd.hT Tryd.func23 rfl rfl rfl rfl rfl (Nat.le_of_ble_eq_true rfl) ?_
  intro w0 hL0
  simp -dsimp -implicitDefEqProofs (disch := omega) only [↓reduceIte, ↓gA, gB, refs, den, hasTy, Ty.cmp, Ty.depth, reduceCtorEq, Nat.reduceAdd, Nat.reduceSub, Nat.reduceMul, Nat.reduceEqDiff, Nat.reduceLT, Nat.reduceLeDiff, Nat.reduceMod, Nat.reduceDiv, Nat.reducePow, Nat.reduceBEq, Int.reduceToNat, Int.reduceLE, Int.reduceLT, Int.reduceEq, Int.reduceAdd, Int.reduceMul, Int.reduceSub, Int.reduceNeg, Int.reduceNe, Tryd.TS, Tryd.EV, rep4]
  refine sdraw (id := 1) Tryd.hT (by kernel_rfl) [] [] [0, 1, 3, 4, 2, 5, 6, 7, 8] (by kernel_rfl) (by kernel_rfl) (by kernel_rfl) ?_; simp only [gK, ↓reduceIte, Nat.reduceEqDiff]
  simp -dsimp -implicitDefEqProofs (disch := omega) only [↓reduceIte, ↓gA, gB, refs, den, hasTy, Ty.cmp, Ty.depth, reduceCtorEq, Nat.reduceAdd, Nat.reduceSub, Nat.reduceMul, Nat.reduceEqDiff, Nat.reduceLT, Nat.reduceLeDiff, Nat.reduceMod, Nat.reduceDiv, Nat.reducePow, Nat.reduceBEq, Int.reduceToNat, Int.reduceLE, Int.reduceLT, Int.reduceEq, Int.reduceAdd, Int.reduceMul, Int.reduceSub, Int.reduceNeg, Int.reduceNe, Tryd.TS, Tryd.EV, rep4]
  first | (with_reducible refine HCall_mono (c1) ?_; rintro rs rfl) | (with_reducible refine HCallF_mono (c1) (by first | rfl | simp [flatR, RV.flat, RV.isD, Ty.flat]) ?_) | (refine SCall.mono (c1) ?_; rintro rs rfl)
  simp -dsimp -implicitDefEqProofs (disch := omega) only [↓reduceIte, ↓gA, gB, refs, den, hasTy, Ty.cmp, Ty.depth, reduceCtorEq, Nat.reduceAdd, Nat.reduceSub, Nat.reduceMul, Nat.reduceEqDiff, Nat.reduceLT, Nat.reduceLeDiff, Nat.reduceMod, Nat.reduceDiv, Nat.reducePow, Nat.reduceBEq, Int.reduceToNat, Int.reduceLE, Int.reduceLT, Int.reduceEq, Int.reduceAdd, Int.reduceMul, Int.reduceSub, Int.reduceNeg, Int.reduceNe, Tryd.TS, Tryd.EV, rep4]
  first | (with_reducible refine HCall_mono (c2) ?_; rintro rs rfl) | (with_reducible refine HCallF_mono (c2) (by first | rfl | simp [flatR, RV.flat, RV.isD, Ty.flat]) ?_) | (refine SCall.mono (c2) ?_; rintro rs rfl)
  simp -dsimp -implicitDefEqProofs (disch := omega) only [↓reduceIte, ↓gA, gB, refs, den, hasTy, Ty.cmp, Ty.depth, reduceCtorEq, Nat.reduceAdd, Nat.reduceSub, Nat.reduceMul, Nat.reduceEqDiff, Nat.reduceLT, Nat.reduceLeDiff, Nat.reduceMod, Nat.reduceDiv, Nat.reducePow, Nat.reduceBEq, Int.reduceToNat, Int.reduceLE, Int.reduceLT, Int.reduceEq, Int.reduceAdd, Int.reduceMul, Int.reduceSub, Int.reduceNeg, Int.reduceNe, Tryd.TS, Tryd.EV, rep4]
  first | (with_reducible refine HCall_mono (c3) ?_; rintro rs rfl) | (with_reducible refine HCallF_mono (c3) (by first | rfl | simp [flatR, RV.flat, RV.isD, Ty.flat]) ?_) | (refine SCall.mono (c3) ?_; rintro rs rfl)
  simp -dsimp -implicitDefEqProofs (disch := omega) only [↓reduceIte, ↓gA, gB, refs, den, hasTy, Ty.cmp, Ty.depth, reduceCtorEq, Nat.reduceAdd, Nat.reduceSub, Nat.reduceMul, Nat.reduceEqDiff, Nat.reduceLT, Nat.reduceLeDiff, Nat.reduceMod, Nat.reduceDiv, Nat.reducePow, Nat.reduceBEq, Int.reduceToNat, Int.reduceLE, Int.reduceLT, Int.reduceEq, Int.reduceAdd, Int.reduceMul, Int.reduceSub, Int.reduceNeg, Int.reduceNe, Tryd.TS, Tryd.EV]

set_option maxHeartbeats 4000000 in
theorem wbytesRef (n : Nat) (hn : n < 115792089237316195423570985008687907853269984665640564039457584007913129639936) : SCall Tryd.prog 94 [(.arr 4 (.int .u64), u256 n)] (fun rs => rs = [.d (.arr 32 (.int .u8)) (.l (toB n))]) := by
  refine scall_intro (n := 24) (rl := [.cell 2 33]) (us := [33]) Tryd.hT Tryd.func94 rfl rfl rfl rfl rfl (Nat.le_of_ble_eq_true rfl) ?_
  intro w0 hL0
  simp -dsimp -implicitDefEqProofs (disch := omega) only [↓reduceIte, ↓gA, gB, refs, den, hasTy, Ty.cmp, Ty.depth, reduceCtorEq, Nat.reduceAdd, Nat.reduceSub, Nat.reduceMul, Nat.reduceEqDiff, Nat.reduceLT, Nat.reduceLeDiff, Nat.reduceMod, Nat.reduceDiv, Nat.reducePow, Nat.reduceBEq, Int.reduceToNat, Int.reduceLE, Int.reduceLT, Int.reduceEq, Int.reduceAdd, Int.reduceMul, Int.reduceSub, Int.reduceNeg, Int.reduceNe, Tryd.TS, Tryd.EV]
  refine sloop Tryd.hT (α := Nat) (fun i => ⟨24, [(6, .v (.d (.int .i64) (.n i))), (3, .v (.ptr 2 [])), (2, .v (.ptr 1 [])), (1, .v (.ptr 0 []))], [(0, ⟨.arr 4 (.int .u64), .d (.arr 4 (.int .u64)) (u256 n)⟩), (1, ⟨.arr 32 (.int .u8), .d (.arr 32 (.int .u8)) (.l (List.replicate 32 (.n 0)))⟩), (2, ⟨.arr 32 (.int .u8), .d (.arr 32 (.int .u8)) (.l ((List.range i).map (fun i => .n ((n / 2 ^ (64 * (3 - i / 8)) % 18446744073709551616 / 2 ^ (56 - 8 * (i % 8)) % 256 : Nat) : Int)) ++ List.replicate (32 - i) (.n 0)))⟩)], 3⟩) (fun i => i ≤ 32) (fun i => 32 - i) 0 ?_ (Nat.zero_le _) ?_
  · refine sub_ren w0 hL0 [(0, 0), (1, 1), (2, 2)] rfl rfl (by simp [keysLt]) rfl ?_ ?_
    · simp [renTm, Go.SE.look, renTV, renSV]
    · simp [renOb, Go.SE.look, renSV]
  · intro i hi
    simp -dsimp -implicitDefEqProofs (disch := omega) only [↓reduceIte, ↓gA, gB, refs, den, hasTy, Ty.cmp, Ty.depth, reduceCtorEq, Nat.reduceAdd, Nat.reduceSub, Nat.reduceMul, Nat.reduceEqDiff, Nat.reduceLT, Nat.reduceLeDiff, Nat.reduceMod, Nat.reduceDiv, Nat.reducePow, Nat.reduceBEq, Int.reduceToNat, Int.reduceLE, Int.reduceLT, Int.reduceEq, Int.reduceAdd, Int.reduceMul, Int.reduceSub, Int.reduceNeg, Int.reduceNe, Tryd.TS, Tryd.EV]
    refine HIf_dec (a := ()) (b := ()) (fun h => ?_) (fun h => ?_)
    · have hb := tbByte (n / 2 ^ (64 * (3 - i / 8)) % 18446744073709551616) i
      have h8 : (8 : Int) * ((7 - i % 8 : Nat) : Int) = 56 - 8 * ((i % 8 : Nat) : Int) := by omega
      simp -dsimp -implicitDefEqProofs (disch := omega) only [↓reduceIte, ↓gA, gB, refs, den, hasTy, Ty.cmp, Ty.depth, reduceCtorEq, Nat.reduceAdd, Nat.reduceSub, Nat.reduceMul, Nat.reduceEqDiff, Nat.reduceLT, Nat.reduceLeDiff, Nat.reduceMod, Nat.reduceDiv, Nat.reducePow, Nat.reduceBEq, Int.reduceToNat, Int.reduceLE, Int.reduceLT, Int.reduceEq, Int.reduceAdd, Int.reduceMul, Int.reduceSub, Int.reduceNeg, Int.reduceNe, Tryd.TS, Tryd.EV, td8', tm8', sub31 (show i < 32 by omega), d31 (show i < 32 by omega), m31 (show i < 32 by omega), u256_at n (show 3 - i / 8 < 4 by omega), h8, hb]
      repeat (refine And.intro (by omega) ?_)
      refine ⟨i + 1, by omega, by omega, ?_⟩
      refine sub_ren w0 hL0 [(0, 0), (1, 1), (2, 2)] rfl rfl (by simp [keysLt]) rfl ?_ ?_
      · simp [renTm, Go.SE.look, renTV, renSV]
      · have e : 32 - i = (32 - (i + 1)) + 1 := by omega
        rw [e, List.replicate_succ, List.range_succ, List.map_append]
        simp [renOb, Go.SE.look, renSV, List.replicate_succ]
    · simp -dsimp -implicitDefEqProofs (disch := omega) only [↓reduceIte, ↓gA, gB, refs, den, hasTy, Ty.cmp, Ty.depth, reduceCtorEq, Nat.reduceAdd, Nat.reduceSub, Nat.reduceMul, Nat.reduceEqDiff, Nat.reduceLT, Nat.reduceLeDiff, Nat.reduceMod, Nat.reduceDiv, Nat.reducePow, Nat.reduceBEq, Int.reduceToNat, Int.reduceLE, Int.reduceLT, Int.reduceEq, Int.reduceAdd, Int.reduceMul, Int.reduceSub, Int.reduceNeg, Int.reduceNe, Tryd.TS, Tryd.EV]
      have e : i = 32 := by omega
      subst e
      simp [toB]

set_option maxHeartbeats 4000000 in
theorem snumberRef (n : Nat) (hn : n < 115792089237316195423570985008687907853269984665640564039457584007913129639936) : SCall Tryd.prog 62 [(.arr 4 (.int .u64), u256 n)] (fun rs => rs = [.own (.int .u8) (toB n)]) := by
  have c1 := wbytesRef n hn
  have hl := toB_len n
  generalize toB n = b at *
  refine scall_intro (n := 7) (rl := [.tmp 2]) (us := [27]) Tryd.hT Tryd.func62 rfl rfl rfl rfl rfl (Nat.le_of_ble_eq_true rfl) ?_
  intro w0 hL0
  simp -dsimp -implicitDefEqProofs (disch := omega) only [↓reduceIte, ↓gA, gB, refs, den, hasTy, Ty.cmp, Ty.depth, reduceCtorEq, Nat.reduceAdd, Nat.reduceSub, Nat.reduceMul, Nat.reduceEqDiff, Nat.reduceLT, Nat.reduceLeDiff, Nat.reduceMod, Nat.reduceDiv, Nat.reducePow, Nat.reduceBEq, Int.reduceToNat, Int.reduceLE, Int.reduceLT, Int.reduceEq, Int.reduceAdd, Int.reduceMul, Int.reduceSub, Int.reduceNeg, Int.reduceNe, Tryd.TS, Tryd.EV]
  first | (with_reducible refine HCall_mono (c1) ?_; rintro rs rfl) | (with_reducible refine HCallF_mono (c1) (by first | rfl | simp [flatR, RV.flat, RV.isD, Ty.flat]) ?_) | (refine SCall.mono (c1) ?_; rintro rs rfl)
  simp -dsimp -implicitDefEqProofs (disch := omega) only [↓reduceIte, ↓gA, gB, refs, den, hasTy, Ty.cmp, Ty.depth, reduceCtorEq, Nat.reduceAdd, Nat.reduceSub, Nat.reduceMul, Nat.reduceEqDiff, Nat.reduceLT, Nat.reduceLeDiff, Nat.reduceMod, Nat.reduceDiv, Nat.reducePow, Nat.reduceBEq, Int.reduceToNat, Int.reduceLE, Int.reduceLT, Int.reduceEq, Int.reduceAdd, Int.reduceMul, Int.reduceSub, Int.reduceNeg, Int.reduceNe, Tryd.TS, Tryd.EV]
  rw [List.take_of_length_le (by omega)]

def joinL : List (List D) → List D
  | [] => []
  | x :: l => x ++ joinL l
theorem joinL_snoc : ∀ (l : List (List D)) (x : List D), joinL (l ++ [x]) = joinL l ++ x
  | [], x => by simp [joinL]
  | y :: l, x => by simp [joinL, joinL_snoc l x]
theorem joinL_take {l : List (List D)} {i : Nat} (h : i < l.length) : joinL (l.take (i + 1)) = joinL (l.take i) ++ l[i] := by
  rw [List.take_succ_eq_append_getElem h, joinL_snoc]
theorem joinL_le : ∀ (l : List (List D)) (i : Nat), (joinL (l.take i)).length ≤ (joinL l).length
  | [], i => by simp [joinL]
  | x :: l, 0 => by simp [joinL]
  | x :: l, i + 1 => by
    have := joinL_le l i
    simp only [List.take_succ_cons, joinL, List.length_append]
    omega
theorem dl_at {l : List (List D)} {i : Nat} (h : i < l.length) : D.at (.l (l.map D.l)) i = .l l[i] := by
  simp [D.at, D.list, List.getD_eq_getElem?_getD, h]

set_option maxHeartbeats 4000000 in
theorem joinRef (l : List (List D)) (hl : l.length ≤ 9223372036854775807) (hs : (joinL l).length ≤ 35184372088832) : SCall Tryd.prog 61 [(.sl (.sl (.int .u8)), .l (l.map D.l))] (fun rs => rs = [.own (.int .u8) (joinL l)]) := by
  refine scall_intro (n := 17) (rl := [.tmp 2]) (us := [27]) Tryd.hT Tryd.func61 rfl rfl rfl rfl rfl (Nat.le_of_ble_eq_true rfl) ?_
  intro w0 hL0
  have hn : (l.map D.l).length = l.length := List.length_map ..
  simp -dsimp -implicitDefEqProofs (disch := omega) only [↓reduceIte, ↓gA, gB, refs, den, hasTy, Ty.cmp, Ty.depth, reduceCtorEq, Nat.reduceAdd, Nat.reduceSub, Nat.reduceMul, Nat.reduceEqDiff, Nat.reduceLT, Nat.reduceLeDiff, Nat.reduceMod, Nat.reduceDiv, Nat.reducePow, Nat.reduceBEq, Int.reduceToNat, Int.reduceLE, Int.reduceLT, Int.reduceEq, Int.reduceAdd, Int.reduceMul, Int.reduceSub, Int.reduceNeg, Int.reduceNe, Tryd.TS, Tryd.EV, hn]
  refine swp_sub Tryd.hT (sub_nilRow w0 3 (.int .u8) rfl) ?_
  refine sloop Tryd.hT (α := Nat) (fun i => ⟨17, [(8, .v (.d (.int .i64) (.n i))), (7, .v (.d (.int .i64) (.n l.length))), (6, .v (.d (.sl (.sl (.int .u8))) (.l (l.map D.l)))), (3, .v (.ref 0 [] 0 (joinL (l.take i)).length))], [(0, ⟨.arr (joinL (l.take i)).length (.int .u8), .d (.arr (joinL (l.take i)).length (.int .u8)) (.l (joinL (l.take i)))⟩)], 1⟩) (fun i => i ≤ l.length) (fun i => l.length - i) 0 ?_ (Nat.zero_le _) ?_
  · refine sub_ren w0 hL0 [(0, 0)] rfl rfl (by simp [keysLt]) rfl ?_ ?_
    · simp [renTm, Go.SE.look, renTV, renSV, joinL]
    · simp [renOb, Go.SE.look, renSV, joinL]
  · intro i hi
    simp -dsimp -implicitDefEqProofs (disch := omega) only [↓reduceIte, ↓gA, gB, refs, den, hasTy, Ty.cmp, Ty.depth, reduceCtorEq, Nat.reduceAdd, Nat.reduceSub, Nat.reduceMul, Nat.reduceEqDiff, Nat.reduceLT, Nat.reduceLeDiff, Nat.reduceMod, Nat.reduceDiv, Nat.reducePow, Nat.reduceBEq, Int.reduceToNat, Int.reduceLE, Int.reduceLT, Int.reduceEq, Int.reduceAdd, Int.reduceMul, Int.reduceSub, Int.reduceNeg, Int.reduceNe, Tryd.TS, Tryd.EV]
    refine HIf_dec (a := ()) (b := ()) (fun h => ?_) (fun h => ?_)
    · have hlt : i < l.length := by omega
      have h1 := joinL_le l i
      have h2 := joinL_le l (i + 1)
      rw [joinL_take hlt, List.length_append] at h2
      have c := joinedN (joinL (l.take i)) l[i] (by omega)
      have ht : List.take (joinL (l.take i)).length (joinL (l.take i)) = joinL (l.take i) := List.take_of_length_le (Nat.le_refl _)
      simp -dsimp -implicitDefEqProofs (disch := omega) only [↓reduceIte, ↓gA, gB, refs, den, hasTy, Ty.cmp, Ty.depth, reduceCtorEq, Nat.reduceAdd, Nat.reduceSub, Nat.reduceMul, Nat.reduceEqDiff, Nat.reduceLT, Nat.reduceLeDiff, Nat.reduceMod, Nat.reduceDiv, Nat.reducePow, Nat.reduceBEq, Int.reduceToNat, Int.reduceLE, Int.reduceLT, Int.reduceEq, Int.reduceAdd, Int.reduceMul, Int.reduceSub, Int.reduceNeg, Int.reduceNe, Tryd.TS, Tryd.EV, dl_at hlt, ht]
      repeat (refine And.intro (by omega) ?_)
      first | (with_reducible refine HCall_mono (c) ?_; rintro rs rfl) | (with_reducible refine HCallF_mono (c) (by first | rfl | simp [flatR, RV.flat, RV.isD, Ty.flat]) ?_) | (refine SCall.mono (c) ?_; rintro rs rfl)
      simp -dsimp -implicitDefEqProofs (disch := omega) only [↓reduceIte, ↓gA, gB, refs, den, hasTy, Ty.cmp, Ty.depth, reduceCtorEq, Nat.reduceAdd, Nat.reduceSub, Nat.reduceMul, Nat.reduceEqDiff, Nat.reduceLT, Nat.reduceLeDiff, Nat.reduceMod, Nat.reduceDiv, Nat.reducePow, Nat.reduceBEq, Int.reduceToNat, Int.reduceLE, Int.reduceLT, Int.reduceEq, Int.reduceAdd, Int.reduceMul, Int.reduceSub, Int.reduceNeg, Int.reduceNe, Tryd.TS, Tryd.EV]
      repeat (refine And.intro (by omega) ?_)
      refine ⟨i + 1, by omega, by omega, ?_⟩
      rw [joinL_take hlt]
      refine sub_ren w0 hL0 [(0, 1)] rfl rfl (by simp [keysLt]) rfl ?_ ?_
      · simp [renTm, Go.SE.look, renTV, renSV]
      · simp [renOb, Go.SE.look, renSV]
    · simp -dsimp -implicitDefEqProofs (disch := omega) only [↓reduceIte, ↓gA, gB, refs, den, hasTy, Ty.cmp, Ty.depth, reduceCtorEq, Nat.reduceAdd, Nat.reduceSub, Nat.reduceMul, Nat.reduceEqDiff, Nat.reduceLT, Nat.reduceLeDiff, Nat.reduceMod, Nat.reduceDiv, Nat.reducePow, Nat.reduceBEq, Int.reduceToNat, Int.reduceLE, Int.reduceLT, Int.reduceEq, Int.reduceAdd, Int.reduceMul, Int.reduceSub, Int.reduceNeg, Int.reduceNe, Tryd.TS, Tryd.EV]
      have e : i = l.length := by omega
      subst e
      rw [List.take_of_length_le (Nat.le_refl _)]
end Go.Proofs
/- Signatures of bytes. -/
namespace Go.Proofs
open Go.SE

def decC (b : List D) : Nat := fb (b.take 32)
def decZ (b : List D) : Nat := fb ((b.drop 32).take 32)
def decE (b : List D) : Int := if b.length = 64 then (if decC b < 57896044618658097711785492504343953926634992332820282019728792003956564801911 ∧ decZ b < 57896044618658097711785492504343953926634992332820282019728792003956564801911 then 0 else 5) else 8
def decS (b : List D) : D := if b.length = 64 ∧ decC b < 57896044618658097711785492504343953926634992332820282019728792003956564801911 ∧ decZ b < 57896044618658097711785492504343953926634992332820282019728792003956564801911 then .l [u256 (decC b), u256 (decZ b)] else .l [u256 0, u256 0]
theorem BY.take {b : List D} (h : BY b) (n : Nat) : BY (b.take n) := fun x hx => h x (List.mem_of_mem_take hx)
theorem BY.drop {b : List D} (h : BY b) (n : Nat) : BY (b.drop n) := fun x hx => h x (List.mem_of_mem_drop hx)

set_option maxHeartbeats 1000000 in
theorem ssmallRef (x : Nat) (hx : x < 115792089237316195423570985008687907853269984665640564039457584007913129639936) : SCall Tryd.prog 60 [(.arr 4 (.int .u64), u256 x)] (fun rs => rs = [.d .bool (.b (decide (x < 57896044618658097711785492504343953926634992332820282019728792003956564801911)))]) := by
  have hc := wcmpRef x 57896044618658097711785492504343953926634992332820282019728792003956564801911 hx (by omega)
  refine scall_intro (n := 7) (rl := [.tmp 2]) (us := [4]) Tryd.hT Tryd.func60 rfl rfl rfl rfl rfl (Nat.le_of_ble_eq_true rfl) ?_
  intro w0 hL0
  simp -dsimp -implicitDefEqProofs (disch := omega) only [↓reduceIte, ↓gA, gB, refs, den, hasTy, Ty.cmp, Ty.depth, reduceCtorEq, Nat.reduceAdd, Nat.reduceSub, Nat.reduceMul, Nat.reduceEqDiff, Nat.reduceLT, Nat.reduceLeDiff, Nat.reduceMod, Nat.reduceDiv, Nat.reducePow, Nat.reduceBEq, Int.reduceToNat, Int.reduceLE, Int.reduceLT, Int.reduceEq, Int.reduceAdd, Int.reduceMul, Int.reduceSub, Int.reduceNeg, Int.reduceNe, Tryd.TS, Tryd.EV, rep4]
  refine sdraw (id := 1) Tryd.hT (by kernel_rfl) [] [] [0, 1, 2, 3, 4] (by kernel_rfl) (by kernel_rfl) (by kernel_rfl) ?_; simp only [gK, ↓reduceIte, Nat.reduceEqDiff]
  simp -dsimp -implicitDefEqProofs (disch := omega) only [↓reduceIte, ↓gA, gB, refs, den, hasTy, Ty.cmp, Ty.depth, reduceCtorEq, Nat.reduceAdd, Nat.reduceSub, Nat.reduceMul, Nat.reduceEqDiff, Nat.reduceLT, Nat.reduceLeDiff, Nat.reduceMod, Nat.reduceDiv, Nat.reducePow, Nat.reduceBEq, Int.reduceToNat, Int.reduceLE, Int.reduceLT, Int.reduceEq, Int.reduceAdd, Int.reduceMul, Int.reduceSub, Int.reduceNeg, Int.reduceNe, Tryd.TS, Tryd.EV, rep4]
  first | (with_reducible refine HCall_mono (gorderRef) ?_; rintro rs rfl) | (with_reducible refine HCallF_mono (gorderRef) (by first | rfl | simp [flatR, RV.flat, RV.isD, Ty.flat]) ?_) | (refine SCall.mono (gorderRef) ?_; rintro rs rfl)
  simp -dsimp -implicitDefEqProofs (disch := omega) only [↓reduceIte, ↓gA, gB, refs, den, hasTy, Ty.cmp, Ty.depth, reduceCtorEq, Nat.reduceAdd, Nat.reduceSub, Nat.reduceMul, Nat.reduceEqDiff, Nat.reduceLT, Nat.reduceLeDiff, Nat.reduceMod, Nat.reduceDiv, Nat.reducePow, Nat.reduceBEq, Int.reduceToNat, Int.reduceLE, Int.reduceLT, Int.reduceEq, Int.reduceAdd, Int.reduceMul, Int.reduceSub, Int.reduceNeg, Int.reduceNe, Tryd.TS, Tryd.EV]
  first | (with_reducible refine HCall_mono (hc) ?_; rintro rs rfl) | (with_reducible refine HCallF_mono (hc) (by first | rfl | simp [flatR, RV.flat, RV.isD, Ty.flat]) ?_) | (refine SCall.mono (hc) ?_; rintro rs rfl)
  simp -dsimp -implicitDefEqProofs (disch := omega) only [↓reduceIte, ↓gA, gB, refs, den, hasTy, Ty.cmp, Ty.depth, reduceCtorEq, Nat.reduceAdd, Nat.reduceSub, Nat.reduceMul, Nat.reduceEqDiff, Nat.reduceLT, Nat.reduceLeDiff, Nat.reduceMod, Nat.reduceDiv, Nat.reducePow, Nat.reduceBEq, Int.reduceToNat, Int.reduceLE, Int.reduceLT, Int.reduceEq, Int.reduceAdd, Int.reduceMul, Int.reduceSub, Int.reduceNeg, Int.reduceNe, Tryd.TS, Tryd.EV]
  rw [cmp_lt]

set_option maxHeartbeats 4000000 in
theorem sdecode (b : List D) (hB : BY b) (hb : b.length ≤ 35184372088832) : SCall Tryd.prog 20 [(.sl (.int .u8), .l b)]
    (fun rs => rs = [.d (.cons (.arr 4 (.int .u64)) (.cons (.arr 4 (.int .u64)) .nil)) (decS b), .d (.int .i64) (.n (decE b))]) := by
  by_cases hl : b.length = 64
  · have l1 : (b.take 32).length = 32 := by simp; omega
    have l2 : ((b.drop 32).take 32).length = 32 := by simp; omega
    have c1 := wfromBytes (b.take 32) (hB.take 32) l1
    have c2 := wfromBytes ((b.drop 32).take 32) ((hB.drop 32).take 32) l2
    have d1 := fb_lt (hB.take 32)
    have d2 := fb_lt ((hB.drop 32).take 32)
    have c3 := sscalar _ d1
    have c4 := sscalar _ d2
    have e3 : List.take 32 (List.take 32 b) = List.take 32 b := by rw [List.take_take, Nat.min_self]
    have e6 : List.take 32 (List.take 32 (List.drop 32 b)) = List.take 32 (List.drop 32 b) := by rw [List.take_take, Nat.min_self]
    have e4 : List.drop 32 (List.take 64 b) = (b.drop 32).take 32 := by rw [List.drop_take]
    have e5 : List.take 64 b = b := List.take_of_length_le (by omega)
    rw [show decE b = if decC b < 57896044618658097711785492504343953926634992332820282019728792003956564801911 ∧ decZ b < 57896044618658097711785492504343953926634992332820282019728792003956564801911 then 0 else 5 by unfold decE; rw [if_pos hl], show decS b = if decC b < 57896044618658097711785492504343953926634992332820282019728792003956564801911 ∧ decZ b < 57896044618658097711785492504343953926634992332820282019728792003956564801911 then .l [u256 (decC b), u256 (decZ b)] else .l [u256 0, u256 0] by unfold decS; simp only [hl, true_and]]
    unfold decC decZ
    generalize fb (b.take 32) = x at *
    generalize fb ((b.drop 32).take 32) = y at *
    refine scall_intro (n := 32) (rl := [.cell 2 50, .tmp 3]) (us := [50, 34]) Tryd.hT Tryd.func20 rfl rfl rfl rfl rfl (Nat.le_of_ble_eq_true rfl) ?_
    intro w0 hL0
    repeat' (first
              | (with_reducible refine HCall_mono (c1) ?_; rintro rs rfl)
              | (with_reducible refine HCallF_mono (c1) (by first | rfl | simp [flatR, RV.flat, RV.isD, Ty.flat]) ?_)
              | (with_reducible refine HCallP_mono (c1) ?_; rintro _ _ _ ⟨rfl, rfl, rfl⟩)
              | (with_reducible refine HCall_mono (c2) ?_; rintro rs rfl)
              | (with_reducible refine HCallF_mono (c2) (by first | rfl | simp [flatR, RV.flat, RV.isD, Ty.flat]) ?_)
              | (with_reducible refine HCallP_mono (c2) ?_; rintro _ _ _ ⟨rfl, rfl, rfl⟩)
              | (refine sdraw (id := 3) Tryd.hT (by kernel_rfl) [12] [4, 9] [0, 1, 2, 3, 5, 6, 7, 8, 4, 9, 10, 11, 12] (by kernel_rfl) (by kernel_rfl) (by kernel_rfl) ?_; simp only [gK, ↓reduceIte, Nat.reduceEqDiff])
              | with_reducible exact True.intro
              | (refine And.intro (by omega) ?_)
              | (simp -dsimp -implicitDefEqProofs (disch := omega) only [↓reduceIte, ↓gA, gB, refs, den, hasTy, Ty.cmp, Ty.depth, reduceCtorEq, Nat.reduceAdd, Nat.reduceSub, Nat.reduceMul, Nat.reduceEqDiff, Nat.reduceLT, Nat.reduceLeDiff, Nat.reduceMod, Nat.reduceDiv, Nat.reducePow, Nat.reduceBEq, Int.reduceToNat, Int.reduceLE, Int.reduceLT, Int.reduceEq, Int.reduceAdd, Int.reduceMul, Int.reduceSub, Int.reduceNeg, Int.reduceNe, Tryd.TS, Tryd.EV, rep4, hl, l1, l2, e3, e4, e5, e6, u256_zero, set_sg0, set_sg1])
              | decide)
    first | (with_reducible refine HCall_mono (c3) ?_; rintro rs rfl) | (with_reducible refine HCallF_mono (c3) (by first | rfl | simp [flatR, RV.flat, RV.isD, Ty.flat]) ?_) | (refine SCall.mono (c3) ?_; rintro rs rfl)
    by_cases h3 : x < 57896044618658097711785492504343953926634992332820282019728792003956564801911
    · rw [decide_eq_true h3]
      simp -dsimp -implicitDefEqProofs (disch := omega) only [↓reduceIte, ↓gA, gB, refs, den, hasTy, Ty.cmp, Ty.depth, reduceCtorEq, Nat.reduceAdd, Nat.reduceSub, Nat.reduceMul, Nat.reduceEqDiff, Nat.reduceLT, Nat.reduceLeDiff, Nat.reduceMod, Nat.reduceDiv, Nat.reducePow, Nat.reduceBEq, Int.reduceToNat, Int.reduceLE, Int.reduceLT, Int.reduceEq, Int.reduceAdd, Int.reduceMul, Int.reduceSub, Int.reduceNeg, Int.reduceNe, Tryd.TS, Tryd.EV, rep4]
      first | (with_reducible refine HCall_mono (c4) ?_; rintro rs rfl) | (with_reducible refine HCallF_mono (c4) (by first | rfl | simp [flatR, RV.flat, RV.isD, Ty.flat]) ?_) | (refine SCall.mono (c4) ?_; rintro rs rfl)
      by_cases h4 : y < 57896044618658097711785492504343953926634992332820282019728792003956564801911
      · rw [decide_eq_true h4, if_pos ⟨h3, h4⟩, if_pos ⟨h3, h4⟩]
        simp -dsimp -implicitDefEqProofs (disch := omega) only [↓reduceIte, ↓gA, gB, refs, den, hasTy, Ty.cmp, Ty.depth, reduceCtorEq, Nat.reduceAdd, Nat.reduceSub, Nat.reduceMul, Nat.reduceEqDiff, Nat.reduceLT, Nat.reduceLeDiff, Nat.reduceMod, Nat.reduceDiv, Nat.reducePow, Nat.reduceBEq, Int.reduceToNat, Int.reduceLE, Int.reduceLT, Int.reduceEq, Int.reduceAdd, Int.reduceMul, Int.reduceSub, Int.reduceNeg, Int.reduceNe, Tryd.TS, Tryd.EV, rep4]
      · rw [decide_eq_false h4, if_neg (fun k => h4 k.2), if_neg (fun k => h4 k.2)]
        simp -dsimp -implicitDefEqProofs (disch := omega) only [↓reduceIte, ↓gA, gB, refs, den, hasTy, Ty.cmp, Ty.depth, reduceCtorEq, Nat.reduceAdd, Nat.reduceSub, Nat.reduceMul, Nat.reduceEqDiff, Nat.reduceLT, Nat.reduceLeDiff, Nat.reduceMod, Nat.reduceDiv, Nat.reducePow, Nat.reduceBEq, Int.reduceToNat, Int.reduceLE, Int.reduceLT, Int.reduceEq, Int.reduceAdd, Int.reduceMul, Int.reduceSub, Int.reduceNeg, Int.reduceNe, Tryd.TS, Tryd.EV, rep4, u256_zero]
    · rw [decide_eq_false h3, if_neg (fun k => h3 k.1), if_neg (fun k => h3 k.1)]
      simp -dsimp -implicitDefEqProofs (disch := omega) only [↓reduceIte, ↓gA, gB, refs, den, hasTy, Ty.cmp, Ty.depth, reduceCtorEq, Nat.reduceAdd, Nat.reduceSub, Nat.reduceMul, Nat.reduceEqDiff, Nat.reduceLT, Nat.reduceLeDiff, Nat.reduceMod, Nat.reduceDiv, Nat.reducePow, Nat.reduceBEq, Int.reduceToNat, Int.reduceLE, Int.reduceLT, Int.reduceEq, Int.reduceAdd, Int.reduceMul, Int.reduceSub, Int.reduceNeg, Int.reduceNe, Tryd.TS, Tryd.EV, rep4, u256_zero]
  · rw [show decE b = 8 by unfold decE; rw [if_neg hl], show decS b = .l [u256 0, u256 0] by unfold decS; rw [if_neg (fun k => hl k.1)]]
    refine scall_intro (n := 32) (rl := [.cell 2 50, .tmp 3]) (us := [50, 34]) Tryd.hT Tryd.func20 rfl rfl rfl rfl rfl (Nat.le_of_ble_eq_true rfl) ?_
    intro w0 hL0
    simp -dsimp -implicitDefEqProofs (disch := omega) only [↓reduceIte, ↓gA, gB, refs, den, hasTy, Ty.cmp, Ty.depth, reduceCtorEq, Nat.reduceAdd, Nat.reduceSub, Nat.reduceMul, Nat.reduceEqDiff, Nat.reduceLT, Nat.reduceLeDiff, Nat.reduceMod, Nat.reduceDiv, Nat.reducePow, Nat.reduceBEq, Int.reduceToNat, Int.reduceLE, Int.reduceLT, Int.reduceEq, Int.reduceAdd, Int.reduceMul, Int.reduceSub, Int.reduceNeg, Int.reduceNe, Tryd.TS, Tryd.EV, rep4, u256_zero]
    refine HIf_ndec (a := ()) (b := ()) (fun h => ?_) (fun h => ?_)
    · simp -dsimp -implicitDefEqProofs (disch := omega) only [↓reduceIte, ↓gA, gB, refs, den, hasTy, Ty.cmp, Ty.depth, reduceCtorEq, Nat.reduceAdd, Nat.reduceSub, Nat.reduceMul, Nat.reduceEqDiff, Nat.reduceLT, Nat.reduceLeDiff, Nat.reduceMod, Nat.reduceDiv, Nat.reducePow, Nat.reduceBEq, Int.reduceToNat, Int.reduceLE, Int.reduceLT, Int.reduceEq, Int.reduceAdd, Int.reduceMul, Int.reduceSub, Int.reduceNeg, Int.reduceNe, Tryd.TS, Tryd.EV, rep4, u256_zero]
    · omega
end Go.Proofs
