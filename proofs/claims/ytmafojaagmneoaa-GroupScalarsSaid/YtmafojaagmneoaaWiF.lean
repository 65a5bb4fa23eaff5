/- Numbers of 256 bits: bits, lengths, shifts. -/
import Derived.Test.YtmafojaagmneoaaWiB
import Derived.Test.YtmafojaagmneoaaWiC
import Derived.Test.YtmafojaagmneoaaWiD
import Derived.Test.YtmafojaagmneoaaWiE
set_option linter.unusedVariables false
set_option linter.unusedSimpArgs false
set_option linter.constructorNameAsVariable false
namespace Go.Proofs
open Go.SE

theorem td64 {a : Nat} : (a : Int).tdiv 64 = ((a / 64 : Nat) : Int) := rfl
theorem tm64 {a : Nat} : (a : Int).tmod 64 = ((a % 64 : Nat) : Int) := rfl
theorem tdN {a b : Nat} : (a : Int).tdiv (b : Int) = ((a / b : Nat) : Int) := rfl
theorem tmN {a b : Nat} : (a : Int).tmod (b : Int) = ((a % b : Nat) : Int) := rfl

theorem u256_at (n : Nat) {j : Nat} (hj : j < 4) : D.at (u256 n) j = .n ((n / 2 ^ (64 * j) % 18446744073709551616 : Nat) : Int) := by
  match j, hj with
  | 0, _ => simp [u256, D.at, D.list]
  | 1, _ => rfl
  | 2, _ => rfl
  | 3, _ => rfl
theorem u256_list (n : Nat) : (u256 n).list.length = 4 := rfl

theorem and_one {a : Nat} (h : a < 18446744073709551616) : bits .and .u64 (a : Int) 1 = ((a % 2 : Nat) : Int) := by
  have := bits_and_u64_nat a 1 h (by omega)
  rw [Nat.and_one_is_mod] at this
  exact this

theorem limb_bit (n i : Nat) : n / 2 ^ (64 * (i / 64)) % 18446744073709551616 / 2 ^ (i % 64) % 2 = n / 2 ^ i % 2 := by
  have h1 : (18446744073709551616 : Nat) = 2 ^ (i % 64) * 2 ^ (64 - i % 64) := by rw [← Nat.pow_add, show i % 64 + (64 - i % 64) = 64 by omega]
  rw [h1, Nat.mod_mul_right_div_self, Nat.div_div_eq_div_mul, ← Nat.pow_add, show 64 * (i / 64) + i % 64 = i by omega]
  exact Nat.mod_mod_of_dvd _ (Nat.pow_dvd_pow 2 (show 1 ≤ 64 - i % 64 by omega))

theorem limb_lt (n k : Nat) (m : Nat) : n / 2 ^ k % 18446744073709551616 / 2 ^ m < 18446744073709551616 := Nat.lt_of_le_of_lt (Nat.div_le_self _ _) (Nat.mod_lt _ (by omega))

set_option maxHeartbeats 1000000 in
theorem wbitRef (n i : Nat) (hi : i < 256) : SCall Try.prog 62 [(.arr 4 (.int .u64), u256 n), (.int .i64, .n i)] (fun rs => rs = [.d .bool (.b (decide (n / 2 ^ i % 2 = 1)))]) := by
  refine scall_intro (n := 14) (rl := [.tmp 4]) (us := [4]) Try.hT Try.func62 rfl rfl rfl rfl rfl (Nat.le_of_ble_eq_true rfl) ?_
  intro w0
  have h4 : i / 64 < 4 := by omega
  simp -dsimp -implicitDefEqProofs (disch := omega) only [↓gpre, ↓bldS, ↓bld, ↓reduceIte, ↓gmore, gpost, gall, keepT, den, del, upd, dels, refs, hasTy, sArgs, aRefs, rvs, nodupB, memB, app, pTm, Ty.bytes, kbytes, Ty.zeroD, Ty.size, Ty.cmp, Ty.depth, Go.SE.look, reduceCtorEq, Nat.reduceAdd, Nat.reduceSub, Nat.reduceMul, Nat.reduceEqDiff, Nat.reduceLT, Nat.reduceLeDiff, Nat.reduceMod, Nat.reduceDiv, Nat.reducePow, Nat.reduceBEq, Int.reduceToNat, Int.reduceLE, Int.reduceLT, Int.reduceEq, Int.reduceAdd, Int.reduceMul, Int.reduceSub, Int.reduceNeg, Int.reduceNe, Try.TS, td64, tm64, u256_at _ h4, u256_list, shrN (show i % 64 ≤ 64 by omega), and_one (limb_lt _ _ _), limb_bit]
  refine ⟨by omega, by omega, by omega, ?_⟩
  rw [show decide (((n / 2 ^ i % 2 : Nat) : Int) = 1) = decide (n / 2 ^ i % 2 = 1) from decide_eq_decide.2 (by generalize n / 2 ^ i = q; omega)]

theorem bl_u256 {n i : Nat} (h : n < 2 ^ (i + 1)) (hb : n / 2 ^ i % 2 = 1) : bl n = i + 1 := by
  refine bl_iff.2 ⟨?_, h⟩
  rcases Nat.lt_or_ge n (2 ^ i) with k | k
  · rw [Nat.div_eq_of_lt k] at hb; omega
  · exact k
theorem lt_of_bit {n i : Nat} (h : n < 2 ^ (i + 1)) (hb : ¬ n / 2 ^ i % 2 = 1) : n < 2 ^ i := by
  have hp := Nat.two_pow_pos i
  rw [Nat.pow_succ] at h
  have : n / 2 ^ i < 2 := Nat.div_lt_of_lt_mul h
  have : n / 2 ^ i = 0 := by generalize n / 2 ^ i = q at *; omega
  rcases (Nat.div_eq_zero_iff).1 this with k | k
  · omega
  · exact k

set_option maxHeartbeats 1000000 in
theorem wlenRef (n : Nat) (hn : n < 115792089237316195423570985008687907853269984665640564039457584007913129639936) : SCall Try.prog 80 [(.arr 4 (.int .u64), u256 n)] (fun rs => rs = [.d (.int .i64) (.n (bl n))]) := by
  refine scall_intro (n := 13) (rl := [.tmp 2]) (us := [3]) Try.hT Try.func80 rfl rfl rfl rfl rfl (Nat.le_of_ble_eq_true rfl) ?_
  intro w0
  simp -dsimp -implicitDefEqProofs (disch := omega) only [↓gpre, ↓bldS, ↓bld, ↓reduceIte, ↓gmore, gpost, gall, keepT, den, del, upd, dels, refs, hasTy, sArgs, aRefs, rvs, nodupB, memB, app, pTm, Ty.bytes, kbytes, Ty.zeroD, Ty.size, Ty.cmp, Ty.depth, Go.SE.look, reduceCtorEq, Nat.reduceAdd, Nat.reduceSub, Nat.reduceMul, Nat.reduceEqDiff, Nat.reduceLT, Nat.reduceLeDiff, Nat.reduceMod, Nat.reduceDiv, Nat.reducePow, Nat.reduceBEq, Int.reduceToNat, Int.reduceLE, Int.reduceLT, Int.reduceEq, Int.reduceAdd, Int.reduceMul, Int.reduceSub, Int.reduceNeg, Int.reduceNe, Try.TS]
  refine sloop Try.hT (α := Nat) (fun k => ⟨13, [(3, .v (.d (.int .i64) (.n ((k : Int) - 1)))), (1, .v (.ptr 0 []))], [(0, ⟨.arr 4 (.int .u64), .d (.arr 4 (.int .u64)) (u256 n)⟩)], 1⟩) (fun k => k ≤ 256 ∧ n < 2 ^ k) (fun k => k) 256 ?_ ⟨Nat.le_refl _, hn⟩ ?_
  · refine sub_ren w0 [(0, 0)] rfl (by simp [keysLt]) rfl ?_ ?_
    · simp [renTm, Go.SE.look, renTV, renSV]
    · simp [renOb, Go.SE.look, renSV]
  rintro k ⟨hk, hlt⟩
  simp -dsimp -implicitDefEqProofs (disch := omega) only [↓gpre, ↓bldS, ↓bld, ↓reduceIte, ↓gmore, gpost, gall, keepT, den, del, upd, dels, refs, hasTy, sArgs, aRefs, rvs, nodupB, memB, app, pTm, Ty.bytes, kbytes, Ty.zeroD, Ty.size, Ty.cmp, Ty.depth, Go.SE.look, reduceCtorEq, Nat.reduceAdd, Nat.reduceSub, Nat.reduceMul, Nat.reduceEqDiff, Nat.reduceLT, Nat.reduceLeDiff, Nat.reduceMod, Nat.reduceDiv, Nat.reducePow, Nat.reduceBEq, Int.reduceToNat, Int.reduceLE, Int.reduceLT, Int.reduceEq, Int.reduceAdd, Int.reduceMul, Int.reduceSub, Int.reduceNeg, Int.reduceNe, Try.TS]
  refine HIf_dec (fun h => ?_) (fun h => ?_)
  · obtain ⟨i, rfl⟩ : ∃ i, k = i + 1 := ⟨k - 1, by omega⟩
    simp -dsimp -implicitDefEqProofs (disch := omega) only [↓gpre, ↓bldS, ↓bld, ↓reduceIte, ↓gmore, gpost, gall, keepT, den, del, upd, dels, refs, hasTy, sArgs, aRefs, rvs, nodupB, memB, app, pTm, Ty.bytes, kbytes, Ty.zeroD, Ty.size, Ty.cmp, Ty.depth, Go.SE.look, reduceCtorEq, Nat.reduceAdd, Nat.reduceSub, Nat.reduceMul, Nat.reduceEqDiff, Nat.reduceLT, Nat.reduceLeDiff, Nat.reduceMod, Nat.reduceDiv, Nat.reducePow, Nat.reduceBEq, Int.reduceToNat, Int.reduceLE, Int.reduceLT, Int.reduceEq, Int.reduceAdd, Int.reduceMul, Int.reduceSub, Int.reduceNeg, Int.reduceNe, Try.TS, show (((i + 1 : Nat) : Int) - 1) = (i : Int) by omega]
    refine SCall.mono (wbitRef n i (by omega)) ?_; rintro rs rfl
    simp -dsimp -implicitDefEqProofs (disch := omega) only [↓gpre, ↓bldS, ↓bld, ↓reduceIte, ↓gmore, gpost, gall, keepT, den, del, upd, dels, refs, hasTy, sArgs, aRefs, rvs, nodupB, memB, app, pTm, Ty.bytes, kbytes, Ty.zeroD, Ty.size, Ty.cmp, Ty.depth, Go.SE.look, reduceCtorEq, Nat.reduceAdd, Nat.reduceSub, Nat.reduceMul, Nat.reduceEqDiff, Nat.reduceLT, Nat.reduceLeDiff, Nat.reduceMod, Nat.reduceDiv, Nat.reducePow, Nat.reduceBEq, Int.reduceToNat, Int.reduceLE, Int.reduceLT, Int.reduceEq, Int.reduceAdd, Int.reduceMul, Int.reduceSub, Int.reduceNeg, Int.reduceNe, Try.TS]
    refine HIf_dec (fun hb => ?_) (fun hb => ?_)
    · simp -dsimp -implicitDefEqProofs (disch := omega) only [↓gpre, ↓bldS, ↓bld, ↓reduceIte, ↓gmore, gpost, gall, keepT, den, del, upd, dels, refs, hasTy, sArgs, aRefs, rvs, nodupB, memB, app, pTm, Ty.bytes, kbytes, Ty.zeroD, Ty.size, Ty.cmp, Ty.depth, Go.SE.look, reduceCtorEq, Nat.reduceAdd, Nat.reduceSub, Nat.reduceMul, Nat.reduceEqDiff, Nat.reduceLT, Nat.reduceLeDiff, Nat.reduceMod, Nat.reduceDiv, Nat.reducePow, Nat.reduceBEq, Int.reduceToNat, Int.reduceLE, Int.reduceLT, Int.reduceEq, Int.reduceAdd, Int.reduceMul, Int.reduceSub, Int.reduceNeg, Int.reduceNe, Try.TS]
      rw [bl_u256 hlt hb, show (((i + 1 : Nat) : Int) - 1 + 1) = ((i + 1 : Nat) : Int) by omega]
    · simp -dsimp -implicitDefEqProofs (disch := omega) only [↓gpre, ↓bldS, ↓bld, ↓reduceIte, ↓gmore, gpost, gall, keepT, den, del, upd, dels, refs, hasTy, sArgs, aRefs, rvs, nodupB, memB, app, pTm, Ty.bytes, kbytes, Ty.zeroD, Ty.size, Ty.cmp, Ty.depth, Go.SE.look, reduceCtorEq, Nat.reduceAdd, Nat.reduceSub, Nat.reduceMul, Nat.reduceEqDiff, Nat.reduceLT, Nat.reduceLeDiff, Nat.reduceMod, Nat.reduceDiv, Nat.reducePow, Nat.reduceBEq, Int.reduceToNat, Int.reduceLE, Int.reduceLT, Int.reduceEq, Int.reduceAdd, Int.reduceMul, Int.reduceSub, Int.reduceNeg, Int.reduceNe, Try.TS]
      refine ⟨i, ⟨by omega, lt_of_bit hlt hb⟩, by omega, ?_⟩
      refine sub_ren w0 [(0, 0)] rfl (by simp [keysLt]) rfl ?_ ?_
      · simp [renTm, Go.SE.look, renTV, renSV]
      · simp [renOb, Go.SE.look, renSV]
  · simp -dsimp -implicitDefEqProofs (disch := omega) only [↓gpre, ↓bldS, ↓bld, ↓reduceIte, ↓gmore, gpost, gall, keepT, den, del, upd, dels, refs, hasTy, sArgs, aRefs, rvs, nodupB, memB, app, pTm, Ty.bytes, kbytes, Ty.zeroD, Ty.size, Ty.cmp, Ty.depth, Go.SE.look, reduceCtorEq, Nat.reduceAdd, Nat.reduceSub, Nat.reduceMul, Nat.reduceEqDiff, Nat.reduceLT, Nat.reduceLeDiff, Nat.reduceMod, Nat.reduceDiv, Nat.reducePow, Nat.reduceBEq, Int.reduceToNat, Int.reduceLE, Int.reduceLT, Int.reduceEq, Int.reduceAdd, Int.reduceMul, Int.reduceSub, Int.reduceNeg, Int.reduceNe, Try.TS]
    have : k = 0 := by omega
    subst this
    have : n = 0 := by omega
    subst this
    rfl

theorem or_pow {a r : Nat} (h : a / 2 ^ r % 2 = 0) : a ||| 2 ^ r = a + 2 ^ r := by
  have hp := Nat.two_pow_pos r
  have hs : a % 2 ^ r < 2 ^ r := Nat.mod_lt _ hp
  have e : 2 ^ r * (2 * (a / 2 ^ r / 2)) + a % 2 ^ r = a := by
    rw [show 2 * (a / 2 ^ r / 2) = a / 2 ^ r by omega, Nat.div_add_mod]
  have e1 : 2 ^ r * (2 * (a / 2 ^ r / 2) + 1) = 2 ^ r * (2 * (a / 2 ^ r / 2)) ||| 2 ^ r := by
    have : 2 * (a / 2 ^ r / 2) + 1 = 2 * (a / 2 ^ r / 2) ||| 1 := Nat.two_pow_add_eq_or_of_lt (i := 1) (by omega) _
    rw [this, Nat.mul_comm, ← Nat.shiftLeft_eq, Nat.shiftLeft_or_distrib, Nat.shiftLeft_eq, Nat.shiftLeft_eq, Nat.one_mul, Nat.mul_comm]
  have e2 : a + 2 ^ r = 2 ^ r * (2 * (a / 2 ^ r / 2) + 1) + a % 2 ^ r := by rw [Nat.mul_add, Nat.mul_one]; omega
  rw [e2, Nat.two_pow_add_eq_or_of_lt hs, e1]
  rw [Nat.or_assoc, Nat.or_comm (2 ^ r), ← Nat.or_assoc, ← Nat.two_pow_add_eq_or_of_lt hs, e]

theorem add_pow_lt {a r k : Nat} (hr : r < k) (ha : a < 2 ^ k) (h : a / 2 ^ r % 2 = 0) : a + 2 ^ r < 2 ^ k := by
  rw [← or_pow h]
  exact Nat.or_lt_two_pow ha (Nat.pow_lt_pow_right (by omega) hr)

theorem shl_one {r : Nat} (hr : r < 64) : IntKind.u64.wrap (1 * 2 ^ min r IntKind.u64.bits) = ((2 ^ r : Nat) : Int) := by
  rw [show min r IntKind.u64.bits = r from Nat.min_eq_left (by show r ≤ 64; omega), Int.one_mul]
  have : 2 ^ r < 2 ^ 64 := Nat.pow_lt_pow_right (by omega) hr
  rw [show ((2 : Int) ^ r) = ((2 ^ r : Nat) : Int) by norm_cast]
  generalize 2 ^ r = q at *
  exact IntWalk.u64_in _ (by omega)

theorem u256_set {N i : Nat} (hN : N < 115792089237316195423570985008687907853269984665640564039457584007913129639936) (hi : i < 256) (hb : N / 2 ^ i % 2 = 0) :
    D.l ((u256 N).list.set (i / 64) (.n (bits .or .u64 ((N / 2 ^ (64 * (i / 64)) % 18446744073709551616 : Nat) : Int) (IntKind.u64.wrap (1 * 2 ^ min (i % 64) IntKind.u64.bits))))) = u256 (N + 2 ^ i) := by
  have hlb := limb_bit N i
  rw [hb] at hlb
  have hL : N / 2 ^ (64 * (i / 64)) % 18446744073709551616 < 18446744073709551616 := Nat.mod_lt _ (by omega)
  have hlt := add_pow_lt (k := 64) (show i % 64 < 64 by omega) hL hlb
  have h2 : 2 ^ (i % 64) < 18446744073709551616 := Nat.pow_lt_pow_right (n := 64) (by omega) (by omega)
  rw [shl_one (by omega), u64_or_nat _ _ hL h2, or_pow hlb]
  have hpow : 2 ^ i = 2 ^ (64 * (i / 64)) * 2 ^ (i % 64) := by rw [← Nat.pow_add, Nat.div_add_mod]
  rw [hpow]
  generalize 2 ^ (i % 64) = r at *
  obtain ⟨a, b, c, d, ha, hb', hc, hd, en, eu⟩ := u256_open N hN
  rw [eu]
  obtain h | h | h | h : i / 64 = 0 ∨ i / 64 = 1 ∨ i / 64 = 2 ∨ i / 64 = 3 := by omega
  all_goals rw [h] at hlt hL ⊢
  all_goals simp only [D.list, List.set_cons_zero, List.set_cons_succ]
  · exact u256_mk (by simpa using hlt) hb' hc hd (by omega)
  · exact u256_mk ha hlt hc hd (by omega)
  · exact u256_mk ha hb' hlt hd (by omega)
  · exact u256_mk ha hb' hc hlt (by omega)
end Go.Proofs
