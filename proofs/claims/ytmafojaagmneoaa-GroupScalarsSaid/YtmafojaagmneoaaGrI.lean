/- Powers of the generator; inverses. -/
import Derived.Test.YtmafojaagmneoaaGrH
set_option linter.unusedVariables false
set_option linter.unusedSimpArgs false
set_option linter.constructorNameAsVariable false
namespace Go.Proofs
open Go.SE

theorem p4_q {q : Nat} (hq : q = 57896044618658097711785492504343953926634992332820282019728792003956564801911) (k : Nat) : 4 ^ (q * k) % 115792089237316195423570985008687907853269984665640564039457584007913129603823 = 1 := by
  rw [Nat.pow_mul, Nat.pow_mod, four_q hq, Nat.one_pow]
theorem p4_mod {q : Nat} (hq : q = 57896044618658097711785492504343953926634992332820282019728792003956564801911) (k : Nat) : 4 ^ (k % q) % 115792089237316195423570985008687907853269984665640564039457584007913129603823 = 4 ^ k % 115792089237316195423570985008687907853269984665640564039457584007913129603823 := by
  have h := Nat.div_add_mod k q
  have h2 : 4 ^ k = 4 ^ (q * (k / q)) * 4 ^ (k % q) := by rw [← Nat.pow_add, h]
  rw [h2, Nat.mul_mod, p4_q hq, Nat.one_mul, Nat.mod_mod]
theorem p4_ne {q : Nat} (hq : q = 57896044618658097711785492504343953926634992332820282019728792003956564801911) (k : Nat) : 4 ^ k % 115792089237316195423570985008687907853269984665640564039457584007913129603823 ≠ 0 := by
  intro h
  have h1 := p4_q hq k
  rw [Nat.mul_comm, Nat.pow_mul, Nat.pow_mod, h] at h1
  rw [Nat.zero_pow (by omega)] at h1
  simp at h1
theorem p4_lt (k : Nat) : 4 ^ k % 115792089237316195423570985008687907853269984665640564039457584007913129603823 < 115792089237316195423570985008687907853269984665640564039457584007913129603823 := Nat.mod_lt _ (by omega)
theorem p4_mem {q : Nat} (hq : q = 57896044618658097711785492504343953926634992332820282019728792003956564801911) (k : Nat) : mem q (4 ^ k % 115792089237316195423570985008687907853269984665640564039457584007913129603823) = true := by
  rw [mem_eq (Nat.pos_of_ne_zero (p4_ne hq k)) (p4_lt k), ← Nat.pow_mod, ← Nat.pow_mul, Nat.mul_comm, p4_q hq]
  rfl
theorem p4_mul (a b : Nat) : (4 ^ a % 115792089237316195423570985008687907853269984665640564039457584007913129603823) * (4 ^ b % 115792089237316195423570985008687907853269984665640564039457584007913129603823) % 115792089237316195423570985008687907853269984665640564039457584007913129603823 = 4 ^ (a + b) % 115792089237316195423570985008687907853269984665640564039457584007913129603823 := by
  rw [Nat.pow_add, ← Nat.mul_mod]
theorem p4_pow (a r : Nat) : (4 ^ a % 115792089237316195423570985008687907853269984665640564039457584007913129603823) ^ r % 115792089237316195423570985008687907853269984665640564039457584007913129603823 = 4 ^ (a * r) % 115792089237316195423570985008687907853269984665640564039457584007913129603823 := by
  rw [Nat.pow_mul, ← Nat.pow_mod]
theorem p4_inv {q r : Nat} (hq : q = 57896044618658097711785492504343953926634992332820282019728792003956564801911) (hr : r = 115792089237316195423570985008687907853269984665640564039457584007913129603823 - 2) (a : Nat) : 4 ^ (a + a * r) % 115792089237316195423570985008687907853269984665640564039457584007913129603823 = 1 := by
  have h : a + a * r = q * (2 * a) := by
    have h1 : 1 + r = q * 2 := by omega
    rw [← Nat.mul_assoc, ← h1, Nat.add_mul, Nat.one_mul, Nat.mul_comm r]
  rw [h, p4_q hq]

set_option maxHeartbeats 2000000 in
theorem ginverse (a r : Nat) (ha : a < 115792089237316195423570985008687907853269984665640564039457584007913129639936) (hr : r = 115792089237316195423570985008687907853269984665640564039457584007913129603823 - 2) : SCall Try.prog 26 [(.arr 4 (.int .u64), u256 a)] (fun rs => rs = [.d (.arr 4 (.int .u64)) (u256 (a ^ r % 115792089237316195423570985008687907853269984665640564039457584007913129603823))]) := by
  have hf : SCall Try.prog 36 [(.int .u64, .n 2)] (fun rs => rs = [.d (.arr 4 (.int .u64)) (u256 2)]) := fromUint 2 (by omega)
  have hs := wsub 115792089237316195423570985008687907853269984665640564039457584007913129603823 2 (by omega) (by omega)
  rw [show (115792089237316195423570985008687907853269984665640564039457584007913129603823 + 115792089237316195423570985008687907853269984665640564039457584007913129639936 - 2) % 115792089237316195423570985008687907853269984665640564039457584007913129639936 = r by omega] at hs
  refine scall_intro (n := 14) (rl := [.cell 2 24]) (us := [24]) Try.hT Try.func26 rfl rfl rfl rfl rfl (Nat.le_of_ble_eq_true rfl) ?_
  intro w0
  simp -dsimp -implicitDefEqProofs (disch := omega) only [↓gpre, ↓bldS, ↓bld, ↓reduceIte, ↓gmore, gpost, gall, keepT, den, del, upd, dels, refs, hasTy, sArgs, aRefs, rvs, nodupB, memB, app, pTm, Ty.bytes, kbytes, Ty.zeroD, Ty.size, Ty.cmp, Ty.depth, Go.SE.look, reduceCtorEq, Nat.reduceAdd, Nat.reduceSub, Nat.reduceMul, Nat.reduceEqDiff, Nat.reduceLT, Nat.reduceLeDiff, Nat.reduceMod, Nat.reduceDiv, Nat.reducePow, Nat.reduceBEq, Int.reduceToNat, Int.reduceLE, Int.reduceLT, Int.reduceEq, Int.reduceAdd, Int.reduceMul, Int.reduceSub, Int.reduceNeg, Int.reduceNe, Try.TS, rep4]
  refine SCall.mono (gmodulus) ?_; rintro rs rfl
  simp -dsimp -implicitDefEqProofs (disch := omega) only [↓gpre, ↓bldS, ↓bld, ↓reduceIte, ↓gmore, gpost, gall, keepT, den, del, upd, dels, refs, hasTy, sArgs, aRefs, rvs, nodupB, memB, app, pTm, Ty.bytes, kbytes, Ty.zeroD, Ty.size, Ty.cmp, Ty.depth, Go.SE.look, reduceCtorEq, Nat.reduceAdd, Nat.reduceSub, Nat.reduceMul, Nat.reduceEqDiff, Nat.reduceLT, Nat.reduceLeDiff, Nat.reduceMod, Nat.reduceDiv, Nat.reducePow, Nat.reduceBEq, Int.reduceToNat, Int.reduceLE, Int.reduceLT, Int.reduceEq, Int.reduceAdd, Int.reduceMul, Int.reduceSub, Int.reduceNeg, Int.reduceNe, Try.TS]
  refine SCall.mono (hf) ?_; rintro rs rfl
  simp -dsimp -implicitDefEqProofs (disch := omega) only [↓gpre, ↓bldS, ↓bld, ↓reduceIte, ↓gmore, gpost, gall, keepT, den, del, upd, dels, refs, hasTy, sArgs, aRefs, rvs, nodupB, memB, app, pTm, Ty.bytes, kbytes, Ty.zeroD, Ty.size, Ty.cmp, Ty.depth, Go.SE.look, reduceCtorEq, Nat.reduceAdd, Nat.reduceSub, Nat.reduceMul, Nat.reduceEqDiff, Nat.reduceLT, Nat.reduceLeDiff, Nat.reduceMod, Nat.reduceDiv, Nat.reducePow, Nat.reduceBEq, Int.reduceToNat, Int.reduceLE, Int.reduceLT, Int.reduceEq, Int.reduceAdd, Int.reduceMul, Int.reduceSub, Int.reduceNeg, Int.reduceNe, Try.TS]
  refine SCall.mono (hs) ?_; rintro rs rfl
  simp -dsimp -implicitDefEqProofs (disch := omega) only [↓gpre, ↓bldS, ↓bld, ↓reduceIte, ↓gmore, gpost, gall, keepT, den, del, upd, dels, refs, hasTy, sArgs, aRefs, rvs, nodupB, memB, app, pTm, Ty.bytes, kbytes, Ty.zeroD, Ty.size, Ty.cmp, Ty.depth, Go.SE.look, reduceCtorEq, Nat.reduceAdd, Nat.reduceSub, Nat.reduceMul, Nat.reduceEqDiff, Nat.reduceLT, Nat.reduceLeDiff, Nat.reduceMod, Nat.reduceDiv, Nat.reducePow, Nat.reduceBEq, Int.reduceToNat, Int.reduceLE, Int.reduceLT, Int.reduceEq, Int.reduceAdd, Int.reduceMul, Int.reduceSub, Int.reduceNeg, Int.reduceNe, Try.TS, rep4]
  refine SCall.mono (gexp a r ha (by omega)) ?_; rintro rs rfl
  simp -dsimp -implicitDefEqProofs (disch := omega) only [↓gpre, ↓bldS, ↓bld, ↓reduceIte, ↓gmore, gpost, gall, keepT, den, del, upd, dels, refs, hasTy, sArgs, aRefs, rvs, nodupB, memB, app, pTm, Ty.bytes, kbytes, Ty.zeroD, Ty.size, Ty.cmp, Ty.depth, Go.SE.look, reduceCtorEq, Nat.reduceAdd, Nat.reduceSub, Nat.reduceMul, Nat.reduceEqDiff, Nat.reduceLT, Nat.reduceLeDiff, Nat.reduceMod, Nat.reduceDiv, Nat.reducePow, Nat.reduceBEq, Int.reduceToNat, Int.reduceLE, Int.reduceLT, Int.reduceEq, Int.reduceAdd, Int.reduceMul, Int.reduceSub, Int.reduceNeg, Int.reduceNe, Try.TS]
end Go.Proofs
