/- Numbers of 256 bits: division. -/
import Derived.Test.YtmafojaagmneoaaWiI
set_option linter.unusedVariables false
set_option linter.unusedSimpArgs false
set_option linter.constructorNameAsVariable false
namespace Go.Proofs
open Go.SE

theorem u256_at0 (n : Nat) : D.at (u256 n) 0 = .n ((n % 18446744073709551616 : Nat) : Int) := rfl
theorem u256_at3 (n : Nat) : D.at (u256 n) 3 = .n ((n / 6277101735386680763835789423207666416102355444464034512896 % 18446744073709551616 : Nat) : Int) := rfl
theorem u256_or0 {n k : Nat} (hn : n < 115792089237316195423570985008687907853269984665640564039457584007913129639936) (h : n % 2 = 0) (hk : k < 2) : D.l ((u256 n).list.set 0 (.n (bits .or .u64 ((n % 18446744073709551616 : Nat) : Int) (k : Int)))) = u256 (n + k) := by
  have hL : n % 18446744073709551616 < 18446744073709551616 := Nat.mod_lt _ (by omega)
  rw [u64_or_nat _ _ hL (by omega)]
  have hor : n % 18446744073709551616 ||| k = n % 18446744073709551616 + k := by
    have := Nat.two_pow_add_eq_or_of_lt (i := 1) (b := k) (by omega) (n % 18446744073709551616 / 2)
    rw [show n % 18446744073709551616 = 2 ^ 1 * (n % 18446744073709551616 / 2) by omega, ← this]
  rw [hor]
  obtain ⟨a, b, c, d, ha, hb, hc, hd, en, eu⟩ := u256_open n hn
  rw [eu]
  simp only [D.list, List.set_cons_zero]
  exact u256_mk (by omega) hb hc hd (by omega)

theorem u256_or1 {n : Nat} (hn : n < 115792089237316195423570985008687907853269984665640564039457584007913129639936) (h : n % 2 = 0) : D.l ((u256 n).list.set 0 (.n (bits .or .u64 ((n % 18446744073709551616 : Nat) : Int) 1))) = u256 (n + 1) := u256_or0 (k := 1) hn h (by omega)
theorem div_limb (n k : Nat) : n / 2 ^ (64 * k) = 18446744073709551616 * (n / 2 ^ (64 * (k + 1))) + n / 2 ^ (64 * k) % 18446744073709551616 := by
  have : n / 2 ^ (64 * (k + 1)) = n / 2 ^ (64 * k) / 18446744073709551616 := by rw [show 64 * (k + 1) = 64 * k + 64 by omega, Nat.pow_add, ← Nat.div_div_eq_div_mul]
  rw [this]
  exact (Nat.div_add_mod _ _).symm

theorem limb_less {v b k : Nat} (h : v / 2 ^ (64 * (k + 1)) = b / 2 ^ (64 * (k + 1))) (hl : v / 2 ^ (64 * k) % 18446744073709551616 < b / 2 ^ (64 * k) % 18446744073709551616) : v < b := by
  have h1 := div_limb v k
  have h2 := div_limb b k
  have : v / 2 ^ (64 * k) < b / 2 ^ (64 * k) := by omega
  rcases Nat.lt_or_ge v b with hh | hh
  · exact hh
  · have := Nat.div_le_div_right (c := 2 ^ (64 * k)) hh
    omega
theorem limb_eq {v b k : Nat} (h : v / 2 ^ (64 * (k + 1)) = b / 2 ^ (64 * (k + 1))) (hl : v / 2 ^ (64 * k) % 18446744073709551616 = b / 2 ^ (64 * k) % 18446744073709551616) : v / 2 ^ (64 * k) = b / 2 ^ (64 * k) := by
  have h1 := div_limb v k
  have h2 := div_limb b k
  omega

/-- Where a division stands: the bits from i on are done. -/
structure DivI (hi lo b i Q r : Nat) : Prop where
  le : i ≤ 256
  eq : hi * 2 ^ (256 - i) + lo / 2 ^ i = Q * b + r
  lt : r < b

theorem DivI.q_lt {hi lo b i Q r : Nat} (h : DivI hi lo b i Q r) (hhi : hi < b) (hlo : lo < 115792089237316195423570985008687907853269984665640564039457584007913129639936) : 2 ^ i * Q < 115792089237316195423570985008687907853269984665640564039457584007913129639936 := by
  obtain ⟨h1, h2, h3⟩ := h
  have e : (115792089237316195423570985008687907853269984665640564039457584007913129639936 : Nat) = 2 ^ i * 2 ^ (256 - i) := by rw [← Nat.pow_add, show i + (256 - i) = 256 by omega]
  have hl : lo / 2 ^ i < 2 ^ (256 - i) := Nat.div_lt_of_lt_mul (by rw [← e]; exact hlo)
  have h4 : (hi + 1) * 2 ^ (256 - i) ≤ b * 2 ^ (256 - i) := Nat.mul_le_mul_right _ hhi
  rw [Nat.add_mul, Nat.one_mul] at h4
  have h5 : Q * b < 2 ^ (256 - i) * b := by rw [Nat.mul_comm (2 ^ (256 - i))]; omega
  have h6 : Q < 2 ^ (256 - i) := Nat.lt_of_mul_lt_mul_right h5
  rw [e]
  exact Nat.mul_lt_mul_of_pos_left h6 (Nat.two_pow_pos _)

theorem DivI.eq' {hi lo b k Q r : Nat} (h : DivI hi lo b (k + 1) Q r) : hi * 2 ^ (256 - k) + lo / 2 ^ k = 2 * (Q * b) + (2 * r + lo / 2 ^ k % 2) := by
  obtain ⟨h1, h2, h3⟩ := h
  have e1 : hi * 2 ^ (256 - k) = 2 * (hi * 2 ^ (256 - (k + 1))) := by
    rw [show 256 - k = (256 - (k + 1)) + 1 by omega, Nat.pow_succ]
    rw [Nat.mul_comm 2, Nat.mul_assoc]
  have e2 : lo / 2 ^ (k + 1) = lo / 2 ^ k / 2 := by rw [Nat.pow_succ, Nat.div_div_eq_div_mul]
  rw [e2] at h2
  omega

theorem DivI.less {hi lo b k Q r : Nat} (h : DivI hi lo b (k + 1) Q r) (hl : 2 * r + lo / 2 ^ k % 2 < b) : DivI hi lo b k (2 * Q) (2 * r + lo / 2 ^ k % 2) := by
  have e := h.eq'
  refine ⟨by have := h.le; omega, ?_, hl⟩
  rw [e, Nat.mul_assoc]
theorem DivI.more {hi lo b k Q r : Nat} (h : DivI hi lo b (k + 1) Q r) (hl : b ≤ 2 * r + lo / 2 ^ k % 2) : DivI hi lo b k (2 * Q + 1) (2 * r + lo / 2 ^ k % 2 - b) := by
  have e := h.eq'
  have := h.lt
  refine ⟨by have := h.le; omega, ?_, by omega⟩
  rw [e, Nat.add_mul, Nat.one_mul, Nat.mul_assoc]
  omega
theorem DivI.done {hi lo b Q r : Nat} (h : DivI hi lo b 0 Q r) : Q = (hi * 115792089237316195423570985008687907853269984665640564039457584007913129639936 + lo) / b ∧ r = (hi * 115792089237316195423570985008687907853269984665640564039457584007913129639936 + lo) % b := by
  obtain ⟨_, h2, h3⟩ := h
  have e : hi * 115792089237316195423570985008687907853269984665640564039457584007913129639936 + lo = Q * b + r := by rw [← h2]; simp
  rw [e, Nat.mul_comm Q, Nat.mul_add_div (by omega), Nat.mul_add_mod, Nat.div_eq_of_lt h3, Nat.mod_eq_of_lt h3]
  exact ⟨rfl, rfl⟩

set_option maxHeartbeats 2000000 in
theorem wdivRef (hi lo b : Nat) (hhi : hi < b) (hlo : lo < 115792089237316195423570985008687907853269984665640564039457584007913129639936) (hb : b < 115792089237316195423570985008687907853269984665640564039457584007913129639936) : SCall Try.prog 65 [(.arr 4 (.int .u64), u256 hi), (.arr 4 (.int .u64), u256 lo), (.arr 4 (.int .u64), u256 b)]
    (fun rs => rs = [.d (.arr 4 (.int .u64)) (u256 ((hi * 115792089237316195423570985008687907853269984665640564039457584007913129639936 + lo) / b)), .d (.arr 4 (.int .u64)) (u256 ((hi * 115792089237316195423570985008687907853269984665640564039457584007913129639936 + lo) % b)), .d .bool (.b true)]) := by
  refine scall_intro (n := 61) (rl := [.cell 6 24, .cell 7 24, .tmp 8]) (us := [24, 24, 4]) Try.hT Try.func65 rfl rfl rfl rfl rfl (Nat.le_of_ble_eq_true rfl) ?_
  intro w0
  simp -dsimp -implicitDefEqProofs (disch := omega) only [↓gpre, ↓bldS, ↓bld, ↓reduceIte, ↓gmore, gpost, gall, keepT, den, del, upd, dels, refs, hasTy, sArgs, aRefs, rvs, nodupB, memB, app, pTm, Ty.bytes, kbytes, Ty.zeroD, Ty.size, Ty.cmp, Ty.depth, Go.SE.look, reduceCtorEq, Nat.reduceAdd, Nat.reduceSub, Nat.reduceMul, Nat.reduceEqDiff, Nat.reduceLT, Nat.reduceLeDiff, Nat.reduceMod, Nat.reduceDiv, Nat.reducePow, Nat.reduceBEq, Int.reduceToNat, Int.reduceLE, Int.reduceLT, Int.reduceEq, Int.reduceAdd, Int.reduceMul, Int.reduceSub, Int.reduceNeg, Int.reduceNe, Try.TS, rep4]
  refine SCall.mono (wcmpRef b hi (by omega) (by omega)) ?_; rintro rs rfl
  rw [if_neg (show ¬ b < hi by omega), if_pos hhi]
  simp -dsimp -implicitDefEqProofs (disch := omega) only [↓gpre, ↓bldS, ↓bld, ↓reduceIte, ↓gmore, gpost, gall, keepT, den, del, upd, dels, refs, hasTy, sArgs, aRefs, rvs, nodupB, memB, app, pTm, Ty.bytes, kbytes, Ty.zeroD, Ty.size, Ty.cmp, Ty.depth, Go.SE.look, reduceCtorEq, Nat.reduceAdd, Nat.reduceSub, Nat.reduceMul, Nat.reduceEqDiff, Nat.reduceLT, Nat.reduceLeDiff, Nat.reduceMod, Nat.reduceDiv, Nat.reducePow, Nat.reduceBEq, Int.reduceToNat, Int.reduceLE, Int.reduceLT, Int.reduceEq, Int.reduceAdd, Int.reduceMul, Int.reduceSub, Int.reduceNeg, Int.reduceNe, Try.TS, rep4]
  refine sloop Try.hT (α := Nat × Nat × Nat) (fun x => ⟨61, [(9, .v (.d (.int .i64) (.n ((x.1 : Int) - 1)))), (3, .v (.ptr 0 [])), (4, .v (.ptr 1 [])), (5, .v (.ptr 2 [])), (6, .v (.ptr 3 [])), (7, .v (.ptr 4 []))],
      [(0, ⟨.arr 4 (.int .u64), .d (.arr 4 (.int .u64)) (u256 hi)⟩), (1, ⟨.arr 4 (.int .u64), .d (.arr 4 (.int .u64)) (u256 lo)⟩), (2, ⟨.arr 4 (.int .u64), .d (.arr 4 (.int .u64)) (u256 b)⟩), (3, ⟨.arr 4 (.int .u64), .d (.arr 4 (.int .u64)) (u256 (2 ^ x.1 * x.2.1))⟩), (4, ⟨.arr 4 (.int .u64), .d (.arr 4 (.int .u64)) (u256 x.2.2)⟩)], 5⟩)
    (fun x => DivI hi lo b x.1 x.2.1 x.2.2) (fun x => x.1) (256, 0, hi) ?_ ⟨Nat.le_refl _, by simp only [Nat.sub_self, Nat.pow_zero, Nat.mul_one, Nat.zero_mul, Nat.zero_add]; rw [show (2 : Nat) ^ 256 = 115792089237316195423570985008687907853269984665640564039457584007913129639936 from rfl, Nat.div_eq_of_lt hlo]; rfl, hhi⟩ ?_
  · refine sub_ren w0 [(0, 0), (1, 1), (2, 2), (3, 3), (4, 4)] rfl (by simp [keysLt]) rfl ?_ ?_
    · simp [renTm, Go.SE.look, renTV, renSV]
    · simp [renOb, Go.SE.look, renSV, u256_zero]
  rintro ⟨i, Q, r⟩ hI
  simp only at hI
  have hr := hI.lt
  have hq := hI.q_lt hhi hlo
  have hile := hI.le
  simp -dsimp -implicitDefEqProofs (disch := omega) only [↓gpre, ↓bldS, ↓bld, ↓reduceIte, ↓gmore, gpost, gall, keepT, den, del, upd, dels, refs, hasTy, sArgs, aRefs, rvs, nodupB, memB, app, pTm, Ty.bytes, kbytes, Ty.zeroD, Ty.size, Ty.cmp, Ty.depth, Go.SE.look, reduceCtorEq, Nat.reduceAdd, Nat.reduceSub, Nat.reduceMul, Nat.reduceEqDiff, Nat.reduceLT, Nat.reduceLeDiff, Nat.reduceMod, Nat.reduceDiv, Nat.reducePow, Nat.reduceBEq, Int.reduceToNat, Int.reduceLE, Int.reduceLT, Int.reduceEq, Int.reduceAdd, Int.reduceMul, Int.reduceSub, Int.reduceNeg, Int.reduceNe, Try.TS]
  refine HIf_dec (fun h => ?_) (fun h => ?_)
  · obtain ⟨k, rfl⟩ : ∃ k, i = k + 1 := ⟨i - 1, by omega⟩
    rw [show (((k + 1 : Nat) : Int) - 1) = (k : Int) by omega]
    simp -dsimp -implicitDefEqProofs (disch := omega) only [↓gpre, ↓bldS, ↓bld, ↓reduceIte, ↓gmore, gpost, gall, keepT, den, del, upd, dels, refs, hasTy, sArgs, aRefs, rvs, nodupB, memB, app, pTm, Ty.bytes, kbytes, Ty.zeroD, Ty.size, Ty.cmp, Ty.depth, Go.SE.look, reduceCtorEq, Nat.reduceAdd, Nat.reduceSub, Nat.reduceMul, Nat.reduceEqDiff, Nat.reduceLT, Nat.reduceLeDiff, Nat.reduceMod, Nat.reduceDiv, Nat.reducePow, Nat.reduceBEq, Int.reduceToNat, Int.reduceLE, Int.reduceLT, Int.reduceEq, Int.reduceAdd, Int.reduceMul, Int.reduceSub, Int.reduceNeg, Int.reduceNe, Try.TS]
    refine SCall.mono (wbitRef r 255 (by omega)) ?_; rintro rs rfl
    simp -dsimp -implicitDefEqProofs (disch := omega) only [↓gpre, ↓bldS, ↓bld, ↓reduceIte, ↓gmore, gpost, gall, keepT, den, del, upd, dels, refs, hasTy, sArgs, aRefs, rvs, nodupB, memB, app, pTm, Ty.bytes, kbytes, Ty.zeroD, Ty.size, Ty.cmp, Ty.depth, Go.SE.look, reduceCtorEq, Nat.reduceAdd, Nat.reduceSub, Nat.reduceMul, Nat.reduceEqDiff, Nat.reduceLT, Nat.reduceLeDiff, Nat.reduceMod, Nat.reduceDiv, Nat.reducePow, Nat.reduceBEq, Int.reduceToNat, Int.reduceLE, Int.reduceLT, Int.reduceEq, Int.reduceAdd, Int.reduceMul, Int.reduceSub, Int.reduceNeg, Int.reduceNe, Try.TS]
    refine SCall.mono (waddRef r r (by omega) (by omega)) ?_; rintro rs rfl
    simp -dsimp -implicitDefEqProofs (disch := omega) only [↓gpre, ↓bldS, ↓bld, ↓reduceIte, ↓gmore, gpost, gall, keepT, den, del, upd, dels, refs, hasTy, sArgs, aRefs, rvs, nodupB, memB, app, pTm, Ty.bytes, kbytes, Ty.zeroD, Ty.size, Ty.cmp, Ty.depth, Go.SE.look, reduceCtorEq, Nat.reduceAdd, Nat.reduceSub, Nat.reduceMul, Nat.reduceEqDiff, Nat.reduceLT, Nat.reduceLeDiff, Nat.reduceMod, Nat.reduceDiv, Nat.reducePow, Nat.reduceBEq, Int.reduceToNat, Int.reduceLE, Int.reduceLT, Int.reduceEq, Int.reduceAdd, Int.reduceMul, Int.reduceSub, Int.reduceNeg, Int.reduceNe, Try.TS]
    refine SCall.mono (wbitRef lo k (by omega)) ?_; rintro rs rfl
    have hk4 : k / 64 < 4 := by omega
    have hclear : 2 ^ (k + 1) * Q / 2 ^ k % 2 = 0 := by
      rw [Nat.pow_succ, Nat.mul_assoc, Nat.mul_div_cancel_left _ (Nat.two_pow_pos k)]; omega
    have hset := u256_set hq (show k < 256 by omega) hclear
    have hqe : 2 ^ (k + 1) * Q + 2 ^ k = 2 ^ k * (2 * Q + 1) := by rw [Nat.mul_add, Nat.mul_one, Nat.pow_succ, Nat.mul_assoc]
    have hqe2 : 2 ^ (k + 1) * Q = 2 ^ k * (2 * Q) := by rw [Nat.pow_succ, Nat.mul_assoc]
    have hbit2 : lo / 2 ^ k % 2 < 2 := Nat.mod_lt _ (by omega)
    refine HIf_dec (a := ()) (b := ()) (fun hbit => ?_) (fun hbit => ?_)
    all_goals first
      | (simp -dsimp -implicitDefEqProofs (disch := omega) only [↓gpre, ↓bldS, ↓bld, ↓reduceIte, ↓gmore, gpost, gall, keepT, den, del, upd, dels, refs, hasTy, sArgs, aRefs, rvs, nodupB, memB, app, pTm, Ty.bytes, kbytes, Ty.zeroD, Ty.size, Ty.cmp, Ty.depth, Go.SE.look, reduceCtorEq, Nat.reduceAdd, Nat.reduceSub, Nat.reduceMul, Nat.reduceEqDiff, Nat.reduceLT, Nat.reduceLeDiff, Nat.reduceMod, Nat.reduceDiv, Nat.reducePow, Nat.reduceBEq, Int.reduceToNat, Int.reduceLE, Int.reduceLT, Int.reduceEq, Int.reduceAdd, Int.reduceMul, Int.reduceSub, Int.reduceNeg, Int.reduceNe, Try.TS, u256_at0, u256_list, u256_or1 (n := (r + r) % 115792089237316195423570985008687907853269984665640564039457584007913129639936) (Nat.mod_lt _ (by omega)) (by omega)]
         rw [show (r + r) % 115792089237316195423570985008687907853269984665640564039457584007913129639936 + 1 = (2 * r + lo / 2 ^ k % 2) % 115792089237316195423570985008687907853269984665640564039457584007913129639936 by omega])
      | (simp -dsimp -implicitDefEqProofs (disch := omega) only [↓gpre, ↓bldS, ↓bld, ↓reduceIte, ↓gmore, gpost, gall, keepT, den, del, upd, dels, refs, hasTy, sArgs, aRefs, rvs, nodupB, memB, app, pTm, Ty.bytes, kbytes, Ty.zeroD, Ty.size, Ty.cmp, Ty.depth, Go.SE.look, reduceCtorEq, Nat.reduceAdd, Nat.reduceSub, Nat.reduceMul, Nat.reduceEqDiff, Nat.reduceLT, Nat.reduceLeDiff, Nat.reduceMod, Nat.reduceDiv, Nat.reducePow, Nat.reduceBEq, Int.reduceToNat, Int.reduceLE, Int.reduceLT, Int.reduceEq, Int.reduceAdd, Int.reduceMul, Int.reduceSub, Int.reduceNeg, Int.reduceNe, Try.TS]
         rw [show (r + r) % 115792089237316195423570985008687907853269984665640564039457584007913129639936 = (2 * r + lo / 2 ^ k % 2) % 115792089237316195423570985008687907853269984665640564039457584007913129639936 by omega])
    all_goals refine HIf_dec (fun hov => ?_) (fun hov => ?_)
    · have hge : b ≤ 2 * r + lo / 2 ^ k % 2 := by omega
      simp -dsimp -implicitDefEqProofs (disch := omega) only [↓gpre, ↓bldS, ↓bld, ↓reduceIte, ↓gmore, gpost, gall, keepT, den, del, upd, dels, refs, hasTy, sArgs, aRefs, rvs, nodupB, memB, app, pTm, Ty.bytes, kbytes, Ty.zeroD, Ty.size, Ty.cmp, Ty.depth, Go.SE.look, reduceCtorEq, Nat.reduceAdd, Nat.reduceSub, Nat.reduceMul, Nat.reduceEqDiff, Nat.reduceLT, Nat.reduceLeDiff, Nat.reduceMod, Nat.reduceDiv, Nat.reducePow, Nat.reduceBEq, Int.reduceToNat, Int.reduceLE, Int.reduceLT, Int.reduceEq, Int.reduceAdd, Int.reduceMul, Int.reduceSub, Int.reduceNeg, Int.reduceNe, Try.TS]
      refine SCall.mono (wsubRef ((2 * r + lo / 2 ^ k % 2) % 115792089237316195423570985008687907853269984665640564039457584007913129639936) b (Nat.mod_lt _ (by omega)) hb) ?_; rintro rs rfl
      rw [show ((2 * r + lo / 2 ^ k % 2) % 115792089237316195423570985008687907853269984665640564039457584007913129639936 + 115792089237316195423570985008687907853269984665640564039457584007913129639936 - b) % 115792089237316195423570985008687907853269984665640564039457584007913129639936 = 2 * r + lo / 2 ^ k % 2 - b by omega]
      simp -dsimp -implicitDefEqProofs (disch := omega) only [↓gpre, ↓bldS, ↓bld, ↓reduceIte, ↓gmore, gpost, gall, keepT, den, del, upd, dels, refs, hasTy, sArgs, aRefs, rvs, nodupB, memB, app, pTm, Ty.bytes, kbytes, Ty.zeroD, Ty.size, Ty.cmp, Ty.depth, Go.SE.look, reduceCtorEq, Nat.reduceAdd, Nat.reduceSub, Nat.reduceMul, Nat.reduceEqDiff, Nat.reduceLT, Nat.reduceLeDiff, Nat.reduceMod, Nat.reduceDiv, Nat.reducePow, Nat.reduceBEq, Int.reduceToNat, Int.reduceLE, Int.reduceLT, Int.reduceEq, Int.reduceAdd, Int.reduceMul, Int.reduceSub, Int.reduceNeg, Int.reduceNe, Try.TS]
      refine sdraw Try.hT (by kernel_rfl) [9] [0, 1, 2, 3, 4, 5, 6, 7, 8, 9] (by kernel_rfl) (by kernel_rfl) (by kernel_rfl) ?_; simp only [pickO, List.getElem?_toArray, List.getElem?_cons_zero, List.getElem?_cons_succ]
      simp -dsimp -implicitDefEqProofs (disch := omega) only [↓gpre, ↓bldS, ↓bld, ↓reduceIte, ↓gmore, gpost, gall, keepT, den, del, upd, dels, refs, hasTy, sArgs, aRefs, rvs, nodupB, memB, app, pTm, Ty.bytes, kbytes, Ty.zeroD, Ty.size, Ty.cmp, Ty.depth, Go.SE.look, reduceCtorEq, Nat.reduceAdd, Nat.reduceSub, Nat.reduceMul, Nat.reduceEqDiff, Nat.reduceLT, Nat.reduceLeDiff, Nat.reduceMod, Nat.reduceDiv, Nat.reducePow, Nat.reduceBEq, Int.reduceToNat, Int.reduceLE, Int.reduceLT, Int.reduceEq, Int.reduceAdd, Int.reduceMul, Int.reduceSub, Int.reduceNeg, Int.reduceNe, Try.TS, td64, tm64, u256_at _ hk4, u256_list, hset]
      repeat (refine And.intro (by omega) ?_)
      refine ⟨(k, 2 * Q + 1, 2 * r + lo / 2 ^ k % 2 - b), hI.more hge, Nat.lt_succ_self k, ?_⟩
      refine sub_ren w0 [(0, 0), (1, 1), (2, 2), (3, 3), (4, 4)] rfl (by simp [keysLt]) rfl ?_ ?_
      · simp [renTm, Go.SE.look, renTV, renSV]
      · simp [renOb, Go.SE.look, renSV, hqe]
    · simp -dsimp -implicitDefEqProofs (disch := omega) only [↓gpre, ↓bldS, ↓bld, ↓reduceIte, ↓gmore, gpost, gall, keepT, den, del, upd, dels, refs, hasTy, sArgs, aRefs, rvs, nodupB, memB, app, pTm, Ty.bytes, kbytes, Ty.zeroD, Ty.size, Ty.cmp, Ty.depth, Go.SE.look, reduceCtorEq, Nat.reduceAdd, Nat.reduceSub, Nat.reduceMul, Nat.reduceEqDiff, Nat.reduceLT, Nat.reduceLeDiff, Nat.reduceMod, Nat.reduceDiv, Nat.reducePow, Nat.reduceBEq, Int.reduceToNat, Int.reduceLE, Int.reduceLT, Int.reduceEq, Int.reduceAdd, Int.reduceMul, Int.reduceSub, Int.reduceNeg, Int.reduceNe, Try.TS]
      refine SCall.mono (wcmpRef ((2 * r + lo / 2 ^ k % 2) % 115792089237316195423570985008687907853269984665640564039457584007913129639936) b (Nat.mod_lt _ (by omega)) hb) ?_; rintro rs rfl
      simp -dsimp -implicitDefEqProofs (disch := omega) only [↓gpre, ↓bldS, ↓bld, ↓reduceIte, ↓gmore, gpost, gall, keepT, den, del, upd, dels, refs, hasTy, sArgs, aRefs, rvs, nodupB, memB, app, pTm, Ty.bytes, kbytes, Ty.zeroD, Ty.size, Ty.cmp, Ty.depth, Go.SE.look, reduceCtorEq, Nat.reduceAdd, Nat.reduceSub, Nat.reduceMul, Nat.reduceEqDiff, Nat.reduceLT, Nat.reduceLeDiff, Nat.reduceMod, Nat.reduceDiv, Nat.reducePow, Nat.reduceBEq, Int.reduceToNat, Int.reduceLE, Int.reduceLT, Int.reduceEq, Int.reduceAdd, Int.reduceMul, Int.reduceSub, Int.reduceNeg, Int.reduceNe, Try.TS]
      have hT : (2 * r + lo / 2 ^ k % 2) % 115792089237316195423570985008687907853269984665640564039457584007913129639936 = 2 * r + lo / 2 ^ k % 2 := by omega
      refine HIf_dec (fun hc => ?_) (fun hc => ?_)
      · have hge : b ≤ 2 * r + lo / 2 ^ k % 2 := by
          rw [hT] at hc
          split at hc <;> omega
        simp -dsimp -implicitDefEqProofs (disch := omega) only [↓gpre, ↓bldS, ↓bld, ↓reduceIte, ↓gmore, gpost, gall, keepT, den, del, upd, dels, refs, hasTy, sArgs, aRefs, rvs, nodupB, memB, app, pTm, Ty.bytes, kbytes, Ty.zeroD, Ty.size, Ty.cmp, Ty.depth, Go.SE.look, reduceCtorEq, Nat.reduceAdd, Nat.reduceSub, Nat.reduceMul, Nat.reduceEqDiff, Nat.reduceLT, Nat.reduceLeDiff, Nat.reduceMod, Nat.reduceDiv, Nat.reducePow, Nat.reduceBEq, Int.reduceToNat, Int.reduceLE, Int.reduceLT, Int.reduceEq, Int.reduceAdd, Int.reduceMul, Int.reduceSub, Int.reduceNeg, Int.reduceNe, Try.TS]
        refine SCall.mono (wsubRef ((2 * r + lo / 2 ^ k % 2) % 115792089237316195423570985008687907853269984665640564039457584007913129639936) b (Nat.mod_lt _ (by omega)) hb) ?_; rintro rs rfl
        rw [show ((2 * r + lo / 2 ^ k % 2) % 115792089237316195423570985008687907853269984665640564039457584007913129639936 + 115792089237316195423570985008687907853269984665640564039457584007913129639936 - b) % 115792089237316195423570985008687907853269984665640564039457584007913129639936 = 2 * r + lo / 2 ^ k % 2 - b by omega]
        simp -dsimp -implicitDefEqProofs (disch := omega) only [↓gpre, ↓bldS, ↓bld, ↓reduceIte, ↓gmore, gpost, gall, keepT, den, del, upd, dels, refs, hasTy, sArgs, aRefs, rvs, nodupB, memB, app, pTm, Ty.bytes, kbytes, Ty.zeroD, Ty.size, Ty.cmp, Ty.depth, Go.SE.look, reduceCtorEq, Nat.reduceAdd, Nat.reduceSub, Nat.reduceMul, Nat.reduceEqDiff, Nat.reduceLT, Nat.reduceLeDiff, Nat.reduceMod, Nat.reduceDiv, Nat.reducePow, Nat.reduceBEq, Int.reduceToNat, Int.reduceLE, Int.reduceLT, Int.reduceEq, Int.reduceAdd, Int.reduceMul, Int.reduceSub, Int.reduceNeg, Int.reduceNe, Try.TS]
        refine sdraw Try.hT (by kernel_rfl) [9] [0, 1, 2, 3, 4, 5, 6, 7, 8, 9] (by kernel_rfl) (by kernel_rfl) (by kernel_rfl) ?_; simp only [pickO, List.getElem?_toArray, List.getElem?_cons_zero, List.getElem?_cons_succ]
        simp -dsimp -implicitDefEqProofs (disch := omega) only [↓gpre, ↓bldS, ↓bld, ↓reduceIte, ↓gmore, gpost, gall, keepT, den, del, upd, dels, refs, hasTy, sArgs, aRefs, rvs, nodupB, memB, app, pTm, Ty.bytes, kbytes, Ty.zeroD, Ty.size, Ty.cmp, Ty.depth, Go.SE.look, reduceCtorEq, Nat.reduceAdd, Nat.reduceSub, Nat.reduceMul, Nat.reduceEqDiff, Nat.reduceLT, Nat.reduceLeDiff, Nat.reduceMod, Nat.reduceDiv, Nat.reducePow, Nat.reduceBEq, Int.reduceToNat, Int.reduceLE, Int.reduceLT, Int.reduceEq, Int.reduceAdd, Int.reduceMul, Int.reduceSub, Int.reduceNeg, Int.reduceNe, Try.TS, td64, tm64, u256_at _ hk4, u256_list, hset]
        repeat (refine And.intro (by omega) ?_)
        refine ⟨(k, 2 * Q + 1, 2 * r + lo / 2 ^ k % 2 - b), hI.more hge, Nat.lt_succ_self k, ?_⟩
        refine sub_ren w0 [(0, 0), (1, 1), (2, 2), (3, 3), (4, 4)] rfl (by simp [keysLt]) rfl ?_ ?_
        · simp [renTm, Go.SE.look, renTV, renSV]
        · simp [renOb, Go.SE.look, renSV, hqe]
      · have hlt : 2 * r + lo / 2 ^ k % 2 < b := by
          rw [hT] at hc
          split at hc
          · assumption
          · split at hc <;> omega
        simp -dsimp -implicitDefEqProofs (disch := omega) only [↓gpre, ↓bldS, ↓bld, ↓reduceIte, ↓gmore, gpost, gall, keepT, den, del, upd, dels, refs, hasTy, sArgs, aRefs, rvs, nodupB, memB, app, pTm, Ty.bytes, kbytes, Ty.zeroD, Ty.size, Ty.cmp, Ty.depth, Go.SE.look, reduceCtorEq, Nat.reduceAdd, Nat.reduceSub, Nat.reduceMul, Nat.reduceEqDiff, Nat.reduceLT, Nat.reduceLeDiff, Nat.reduceMod, Nat.reduceDiv, Nat.reducePow, Nat.reduceBEq, Int.reduceToNat, Int.reduceLE, Int.reduceLT, Int.reduceEq, Int.reduceAdd, Int.reduceMul, Int.reduceSub, Int.reduceNeg, Int.reduceNe, Try.TS]
        refine ⟨(k, 2 * Q, 2 * r + lo / 2 ^ k % 2), hI.less hlt, Nat.lt_succ_self k, ?_⟩
        refine sub_ren w0 [(0, 0), (1, 1), (2, 2), (3, 3), (4, 4)] rfl (by simp [keysLt]) rfl ?_ ?_
        · simp [renTm, Go.SE.look, renTV, renSV]
        · simp [renOb, Go.SE.look, renSV, hqe2, hT]
    · have hge : b ≤ 2 * r + lo / 2 ^ k % 2 := by omega
      simp -dsimp -implicitDefEqProofs (disch := omega) only [↓gpre, ↓bldS, ↓bld, ↓reduceIte, ↓gmore, gpost, gall, keepT, den, del, upd, dels, refs, hasTy, sArgs, aRefs, rvs, nodupB, memB, app, pTm, Ty.bytes, kbytes, Ty.zeroD, Ty.size, Ty.cmp, Ty.depth, Go.SE.look, reduceCtorEq, Nat.reduceAdd, Nat.reduceSub, Nat.reduceMul, Nat.reduceEqDiff, Nat.reduceLT, Nat.reduceLeDiff, Nat.reduceMod, Nat.reduceDiv, Nat.reducePow, Nat.reduceBEq, Int.reduceToNat, Int.reduceLE, Int.reduceLT, Int.reduceEq, Int.reduceAdd, Int.reduceMul, Int.reduceSub, Int.reduceNeg, Int.reduceNe, Try.TS]
      refine SCall.mono (wsubRef ((2 * r + lo / 2 ^ k % 2) % 115792089237316195423570985008687907853269984665640564039457584007913129639936) b (Nat.mod_lt _ (by omega)) hb) ?_; rintro rs rfl
      rw [show ((2 * r + lo / 2 ^ k % 2) % 115792089237316195423570985008687907853269984665640564039457584007913129639936 + 115792089237316195423570985008687907853269984665640564039457584007913129639936 - b) % 115792089237316195423570985008687907853269984665640564039457584007913129639936 = 2 * r + lo / 2 ^ k % 2 - b by omega]
      simp -dsimp -implicitDefEqProofs (disch := omega) only [↓gpre, ↓bldS, ↓bld, ↓reduceIte, ↓gmore, gpost, gall, keepT, den, del, upd, dels, refs, hasTy, sArgs, aRefs, rvs, nodupB, memB, app, pTm, Ty.bytes, kbytes, Ty.zeroD, Ty.size, Ty.cmp, Ty.depth, Go.SE.look, reduceCtorEq, Nat.reduceAdd, Nat.reduceSub, Nat.reduceMul, Nat.reduceEqDiff, Nat.reduceLT, Nat.reduceLeDiff, Nat.reduceMod, Nat.reduceDiv, Nat.reducePow, Nat.reduceBEq, Int.reduceToNat, Int.reduceLE, Int.reduceLT, Int.reduceEq, Int.reduceAdd, Int.reduceMul, Int.reduceSub, Int.reduceNeg, Int.reduceNe, Try.TS]
      refine sdraw Try.hT (by kernel_rfl) [9] [0, 1, 2, 3, 4, 5, 6, 7, 8, 9] (by kernel_rfl) (by kernel_rfl) (by kernel_rfl) ?_; simp only [pickO, List.getElem?_toArray, List.getElem?_cons_zero, List.getElem?_cons_succ]
      simp -dsimp -implicitDefEqProofs (disch := omega) only [↓gpre, ↓bldS, ↓bld, ↓reduceIte, ↓gmore, gpost, gall, keepT, den, del, upd, dels, refs, hasTy, sArgs, aRefs, rvs, nodupB, memB, app, pTm, Ty.bytes, kbytes, Ty.zeroD, Ty.size, Ty.cmp, Ty.depth, Go.SE.look, reduceCtorEq, Nat.reduceAdd, Nat.reduceSub, Nat.reduceMul, Nat.reduceEqDiff, Nat.reduceLT, Nat.reduceLeDiff, Nat.reduceMod, Nat.reduceDiv, Nat.reducePow, Nat.reduceBEq, Int.reduceToNat, Int.reduceLE, Int.reduceLT, Int.reduceEq, Int.reduceAdd, Int.reduceMul, Int.reduceSub, Int.reduceNeg, Int.reduceNe, Try.TS, td64, tm64, u256_at _ hk4, u256_list, hset]
      repeat (refine And.intro (by omega) ?_)
      refine ⟨(k, 2 * Q + 1, 2 * r + lo / 2 ^ k % 2 - b), hI.more hge, Nat.lt_succ_self k, ?_⟩
      refine sub_ren w0 [(0, 0), (1, 1), (2, 2), (3, 3), (4, 4)] rfl (by simp [keysLt]) rfl ?_ ?_
      · simp [renTm, Go.SE.look, renTV, renSV]
      · simp [renOb, Go.SE.look, renSV, hqe]
    · simp -dsimp -implicitDefEqProofs (disch := omega) only [↓gpre, ↓bldS, ↓bld, ↓reduceIte, ↓gmore, gpost, gall, keepT, den, del, upd, dels, refs, hasTy, sArgs, aRefs, rvs, nodupB, memB, app, pTm, Ty.bytes, kbytes, Ty.zeroD, Ty.size, Ty.cmp, Ty.depth, Go.SE.look, reduceCtorEq, Nat.reduceAdd, Nat.reduceSub, Nat.reduceMul, Nat.reduceEqDiff, Nat.reduceLT, Nat.reduceLeDiff, Nat.reduceMod, Nat.reduceDiv, Nat.reducePow, Nat.reduceBEq, Int.reduceToNat, Int.reduceLE, Int.reduceLT, Int.reduceEq, Int.reduceAdd, Int.reduceMul, Int.reduceSub, Int.reduceNeg, Int.reduceNe, Try.TS]
      refine SCall.mono (wcmpRef ((2 * r + lo / 2 ^ k % 2) % 115792089237316195423570985008687907853269984665640564039457584007913129639936) b (Nat.mod_lt _ (by omega)) hb) ?_; rintro rs rfl
      simp -dsimp -implicitDefEqProofs (disch := omega) only [↓gpre, ↓bldS, ↓bld, ↓reduceIte, ↓gmore, gpost, gall, keepT, den, del, upd, dels, refs, hasTy, sArgs, aRefs, rvs, nodupB, memB, app, pTm, Ty.bytes, kbytes, Ty.zeroD, Ty.size, Ty.cmp, Ty.depth, Go.SE.look, reduceCtorEq, Nat.reduceAdd, Nat.reduceSub, Nat.reduceMul, Nat.reduceEqDiff, Nat.reduceLT, Nat.reduceLeDiff, Nat.reduceMod, Nat.reduceDiv, Nat.reducePow, Nat.reduceBEq, Int.reduceToNat, Int.reduceLE, Int.reduceLT, Int.reduceEq, Int.reduceAdd, Int.reduceMul, Int.reduceSub, Int.reduceNeg, Int.reduceNe, Try.TS]
      have hT : (2 * r + lo / 2 ^ k % 2) % 115792089237316195423570985008687907853269984665640564039457584007913129639936 = 2 * r + lo / 2 ^ k % 2 := by omega
      refine HIf_dec (fun hc => ?_) (fun hc => ?_)
      · have hge : b ≤ 2 * r + lo / 2 ^ k % 2 := by
          rw [hT] at hc
          split at hc <;> omega
        simp -dsimp -implicitDefEqProofs (disch := omega) only [↓gpre, ↓bldS, ↓bld, ↓reduceIte, ↓gmore, gpost, gall, keepT, den, del, upd, dels, refs, hasTy, sArgs, aRefs, rvs, nodupB, memB, app, pTm, Ty.bytes, kbytes, Ty.zeroD, Ty.size, Ty.cmp, Ty.depth, Go.SE.look, reduceCtorEq, Nat.reduceAdd, Nat.reduceSub, Nat.reduceMul, Nat.reduceEqDiff, Nat.reduceLT, Nat.reduceLeDiff, Nat.reduceMod, Nat.reduceDiv, Nat.reducePow, Nat.reduceBEq, Int.reduceToNat, Int.reduceLE, Int.reduceLT, Int.reduceEq, Int.reduceAdd, Int.reduceMul, Int.reduceSub, Int.reduceNeg, Int.reduceNe, Try.TS]
        refine SCall.mono (wsubRef ((2 * r + lo / 2 ^ k % 2) % 115792089237316195423570985008687907853269984665640564039457584007913129639936) b (Nat.mod_lt _ (by omega)) hb) ?_; rintro rs rfl
        rw [show ((2 * r + lo / 2 ^ k % 2) % 115792089237316195423570985008687907853269984665640564039457584007913129639936 + 115792089237316195423570985008687907853269984665640564039457584007913129639936 - b) % 115792089237316195423570985008687907853269984665640564039457584007913129639936 = 2 * r + lo / 2 ^ k % 2 - b by omega]
        simp -dsimp -implicitDefEqProofs (disch := omega) only [↓gpre, ↓bldS, ↓bld, ↓reduceIte, ↓gmore, gpost, gall, keepT, den, del, upd, dels, refs, hasTy, sArgs, aRefs, rvs, nodupB, memB, app, pTm, Ty.bytes, kbytes, Ty.zeroD, Ty.size, Ty.cmp, Ty.depth, Go.SE.look, reduceCtorEq, Nat.reduceAdd, Nat.reduceSub, Nat.reduceMul, Nat.reduceEqDiff, Nat.reduceLT, Nat.reduceLeDiff, Nat.reduceMod, Nat.reduceDiv, Nat.reducePow, Nat.reduceBEq, Int.reduceToNat, Int.reduceLE, Int.reduceLT, Int.reduceEq, Int.reduceAdd, Int.reduceMul, Int.reduceSub, Int.reduceNeg, Int.reduceNe, Try.TS]
        refine sdraw Try.hT (by kernel_rfl) [9] [0, 1, 2, 3, 4, 5, 6, 7, 8, 9] (by kernel_rfl) (by kernel_rfl) (by kernel_rfl) ?_; simp only [pickO, List.getElem?_toArray, List.getElem?_cons_zero, List.getElem?_cons_succ]
        simp -dsimp -implicitDefEqProofs (disch := omega) only [↓gpre, ↓bldS, ↓bld, ↓reduceIte, ↓gmore, gpost, gall, keepT, den, del, upd, dels, refs, hasTy, sArgs, aRefs, rvs, nodupB, memB, app, pTm, Ty.bytes, kbytes, Ty.zeroD, Ty.size, Ty.cmp, Ty.depth, Go.SE.look, reduceCtorEq, Nat.reduceAdd, Nat.reduceSub, Nat.reduceMul, Nat.reduceEqDiff, Nat.reduceLT, Nat.reduceLeDiff, Nat.reduceMod, Nat.reduceDiv, Nat.reducePow, Nat.reduceBEq, Int.reduceToNat, Int.reduceLE, Int.reduceLT, Int.reduceEq, Int.reduceAdd, Int.reduceMul, Int.reduceSub, Int.reduceNeg, Int.reduceNe, Try.TS, td64, tm64, u256_at _ hk4, u256_list, hset]
        repeat (refine And.intro (by omega) ?_)
        refine ⟨(k, 2 * Q + 1, 2 * r + lo / 2 ^ k % 2 - b), hI.more hge, Nat.lt_succ_self k, ?_⟩
        refine sub_ren w0 [(0, 0), (1, 1), (2, 2), (3, 3), (4, 4)] rfl (by simp [keysLt]) rfl ?_ ?_
        · simp [renTm, Go.SE.look, renTV, renSV]
        · simp [renOb, Go.SE.look, renSV, hqe]
      · have hlt : 2 * r + lo / 2 ^ k % 2 < b := by
          rw [hT] at hc
          split at hc
          · assumption
          · split at hc <;> omega
        simp -dsimp -implicitDefEqProofs (disch := omega) only [↓gpre, ↓bldS, ↓bld, ↓reduceIte, ↓gmore, gpost, gall, keepT, den, del, upd, dels, refs, hasTy, sArgs, aRefs, rvs, nodupB, memB, app, pTm, Ty.bytes, kbytes, Ty.zeroD, Ty.size, Ty.cmp, Ty.depth, Go.SE.look, reduceCtorEq, Nat.reduceAdd, Nat.reduceSub, Nat.reduceMul, Nat.reduceEqDiff, Nat.reduceLT, Nat.reduceLeDiff, Nat.reduceMod, Nat.reduceDiv, Nat.reducePow, Nat.reduceBEq, Int.reduceToNat, Int.reduceLE, Int.reduceLT, Int.reduceEq, Int.reduceAdd, Int.reduceMul, Int.reduceSub, Int.reduceNeg, Int.reduceNe, Try.TS]
        refine ⟨(k, 2 * Q, 2 * r + lo / 2 ^ k % 2), hI.less hlt, Nat.lt_succ_self k, ?_⟩
        refine sub_ren w0 [(0, 0), (1, 1), (2, 2), (3, 3), (4, 4)] rfl (by simp [keysLt]) rfl ?_ ?_
        · simp [renTm, Go.SE.look, renTV, renSV]
        · simp [renOb, Go.SE.look, renSV, hqe2, hT]
  · have : i = 0 := by omega
    subst this
    obtain ⟨rfl, rfl⟩ := hI.done
    simp -dsimp -implicitDefEqProofs (disch := omega) only [↓gpre, ↓bldS, ↓bld, ↓reduceIte, ↓gmore, gpost, gall, keepT, den, del, upd, dels, refs, hasTy, sArgs, aRefs, rvs, nodupB, memB, app, pTm, Ty.bytes, kbytes, Ty.zeroD, Ty.size, Ty.cmp, Ty.depth, Go.SE.look, reduceCtorEq, Nat.reduceAdd, Nat.reduceSub, Nat.reduceMul, Nat.reduceEqDiff, Nat.reduceLT, Nat.reduceLeDiff, Nat.reduceMod, Nat.reduceDiv, Nat.reducePow, Nat.reduceBEq, Int.reduceToNat, Int.reduceLE, Int.reduceLT, Int.reduceEq, Int.reduceAdd, Int.reduceMul, Int.reduceSub, Int.reduceNeg, Int.reduceNe, Try.TS]
    refine sdrawT Try.hT (by kernel_rfl) (.alt 0 (.alt 1 (.alt 2 (.alt 3 (.alt 4 .nil .nil) .nil) .nil) (.alt 2 (.alt 1 (.alt 3 (.alt 4 .nil .nil) .nil) .nil) .nil)) (.alt 1 (.alt 0 (.alt 2 (.alt 3 (.alt 4 .nil .nil) .nil) .nil) .nil) .nil)) (by kernel_rfl) ?_; simp only [tr_alt, tr_nil, tr_nil', pickO, List.getElem?_toArray, List.getElem?_cons_zero, List.getElem?_cons_succ]
    simp -dsimp -implicitDefEqProofs (disch := omega) only [↓gpre, ↓bldS, ↓bld, ↓reduceIte, ↓gmore, gpost, gall, keepT, den, del, upd, dels, refs, hasTy, sArgs, aRefs, rvs, nodupB, memB, app, pTm, Ty.bytes, kbytes, Ty.zeroD, Ty.size, Ty.cmp, Ty.depth, Go.SE.look, reduceCtorEq, Nat.reduceAdd, Nat.reduceSub, Nat.reduceMul, Nat.reduceEqDiff, Nat.reduceLT, Nat.reduceLeDiff, Nat.reduceMod, Nat.reduceDiv, Nat.reducePow, Nat.reduceBEq, Int.reduceToNat, Int.reduceLE, Int.reduceLT, Int.reduceEq, Int.reduceAdd, Int.reduceMul, Int.reduceSub, Int.reduceNeg, Int.reduceNe, Try.TS]
    rw [show 2 ^ 0 * ((hi * 115792089237316195423570985008687907853269984665640564039457584007913129639936 + lo) / b) = (hi * 115792089237316195423570985008687907853269984665640564039457584007913129639936 + lo) / b by omega]
    simp only [and_self]
end Go.Proofs
