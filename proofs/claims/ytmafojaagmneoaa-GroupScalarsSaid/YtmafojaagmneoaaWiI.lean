/- Numbers of 256 bits: products, by the reference. -/
import Derived.Test.YtmafojaagmneoaaWiH
set_option linter.unusedVariables false
set_option linter.unusedSimpArgs false
set_option linter.constructorNameAsVariable false
namespace Go.Proofs
open Go.SE
set_option maxHeartbeats 2000000 in
theorem wmulRef (m n : Nat) (hm : m < 115792089237316195423570985008687907853269984665640564039457584007913129639936) (hn : n < 115792089237316195423570985008687907853269984665640564039457584007913129639936) : SCall Try.prog 78 [(.arr 4 (.int .u64), u256 m), (.arr 4 (.int .u64), u256 n)] (fun rs => rs = [.d (.arr 4 (.int .u64)) (u256 (m * n / 115792089237316195423570985008687907853269984665640564039457584007913129639936)), .d (.arr 4 (.int .u64)) (u256 (m * n % 115792089237316195423570985008687907853269984665640564039457584007913129639936))]) := by
  refine scall_intro (n := 71) (rl := [.cell 4 24, .cell 5 24]) (us := [24, 24]) Try.hT Try.func78 rfl rfl rfl rfl rfl (Nat.le_of_ble_eq_true rfl) ?_
  intro w0
  simp -dsimp -implicitDefEqProofs (disch := omega) only [↓gpre, ↓bldS, ↓bld, ↓reduceIte, ↓gmore, gpost, gall, keepT, den, del, upd, dels, refs, hasTy, sArgs, aRefs, rvs, nodupB, memB, app, pTm, Ty.bytes, kbytes, Ty.zeroD, Ty.size, Ty.cmp, Ty.depth, Go.SE.look, reduceCtorEq, Nat.reduceAdd, Nat.reduceSub, Nat.reduceMul, Nat.reduceEqDiff, Nat.reduceLT, Nat.reduceLeDiff, Nat.reduceMod, Nat.reduceDiv, Nat.reducePow, Nat.reduceBEq, Int.reduceToNat, Int.reduceLE, Int.reduceLT, Int.reduceEq, Int.reduceAdd, Int.reduceMul, Int.reduceSub, Int.reduceNeg, Int.reduceNe, Try.TS, rep4, rep8]
  refine sloop Try.hT (α := Nat × List Nat) (fun x => ⟨71, [(15, .v (.d (.int .i64) (.n x.1))), (2, .v (.ptr 0 [])), (3, .v (.ptr 1 [])), (4, .v (.ptr 2 [])), (5, .v (.ptr 3 [])), (6, .v (.ptr 4 []))],
      [(0, ⟨.arr 4 (.int .u64), .d (.arr 4 (.int .u64)) (u256 m)⟩), (1, ⟨.arr 4 (.int .u64), .d (.arr 4 (.int .u64)) (u256 n)⟩), (2, ⟨.arr 4 (.int .u64), .d (.arr 4 (.int .u64)) (.l [.n 0, .n 0, .n 0, .n 0])⟩), (3, ⟨.arr 4 (.int .u64), .d (.arr 4 (.int .u64)) (.l [.n 0, .n 0, .n 0, .n 0])⟩), (4, ⟨.arr 8 (.int .u64), .d (.arr 8 (.int .u64)) (nl x.2)⟩)], 5⟩)
    (fun x => x.1 ≤ 4 ∧ MulI x.2 ∧ (∀ k, x.1 + 4 ≤ k → x.2.getD k 0 = 0) ∧ valL x.2 = m % 2 ^ (64 * x.1) * n) (fun x => 4 - x.1) (0, [0, 0, 0, 0, 0, 0, 0, 0]) ?_ ?_ ?_
  · refine sub_ren w0 [(0, 0), (1, 1), (2, 2), (3, 3), (4, 4)] rfl (by simp [keysLt]) rfl ?_ ?_
    · simp [renTm, Go.SE.look, renTV, renSV]
    · simp [renOb, Go.SE.look, renSV, nl]
  · refine ⟨by omega, ⟨rfl, fun k => ?_⟩, fun k hk => ?_, by simp [valL, Nat.mod_one]⟩
    · match k with
      | 0 | 1 | 2 | 3 | 4 | 5 | 6 | 7 => simp
      | k + 8 => simp
    · match k, hk with
      | 4, _ | 5, _ | 6, _ | 7, _ => simp
      | k + 8, _ => simp
  rintro ⟨i, p0⟩ ⟨hi, hI, hz, hv⟩
  simp only at hi hI hz hv
  simp -dsimp -implicitDefEqProofs (disch := omega) only [↓gpre, ↓bldS, ↓bld, ↓reduceIte, ↓gmore, gpost, gall, keepT, den, del, upd, dels, refs, hasTy, sArgs, aRefs, rvs, nodupB, memB, app, pTm, Ty.bytes, kbytes, Ty.zeroD, Ty.size, Ty.cmp, Ty.depth, Go.SE.look, reduceCtorEq, Nat.reduceAdd, Nat.reduceSub, Nat.reduceMul, Nat.reduceEqDiff, Nat.reduceLT, Nat.reduceLeDiff, Nat.reduceMod, Nat.reduceDiv, Nat.reducePow, Nat.reduceBEq, Int.reduceToNat, Int.reduceLE, Int.reduceLT, Int.reduceEq, Int.reduceAdd, Int.reduceMul, Int.reduceSub, Int.reduceNeg, Int.reduceNe, Try.TS]
  refine HIf_dec (fun h => ?_) (fun h => ?_)
  · have hi4 : i < 4 := by omega
    simp -dsimp -implicitDefEqProofs (disch := omega) only [↓gpre, ↓bldS, ↓bld, ↓reduceIte, ↓gmore, gpost, gall, keepT, den, del, upd, dels, refs, hasTy, sArgs, aRefs, rvs, nodupB, memB, app, pTm, Ty.bytes, kbytes, Ty.zeroD, Ty.size, Ty.cmp, Ty.depth, Go.SE.look, reduceCtorEq, Nat.reduceAdd, Nat.reduceSub, Nat.reduceMul, Nat.reduceEqDiff, Nat.reduceLT, Nat.reduceLeDiff, Nat.reduceMod, Nat.reduceDiv, Nat.reducePow, Nat.reduceBEq, Int.reduceToNat, Int.reduceLE, Int.reduceLT, Int.reduceEq, Int.reduceAdd, Int.reduceMul, Int.reduceSub, Int.reduceNeg, Int.reduceNe, Try.TS]
    have hx : m / 2 ^ (64 * i) % 18446744073709551616 < 18446744073709551616 := Nat.mod_lt _ (by omega)
    have hstep := mod_step m i
    have hma := u256_at m hi4
    generalize m / 2 ^ (64 * i) % 18446744073709551616 = x at *
    refine sloop Try.hT (α := Nat × List Nat × Nat) (fun z => ⟨71, [(18, .v (.d (.int .i64) (.n z.1))), (7, .v (.d (.int .i64) (.n i))), (8, .v (.d (.int .u64) (.n z.2.2))), (15, .v (.d (.int .i64) (.n i))), (2, .v (.ptr 0 [])), (3, .v (.ptr 1 [])), (4, .v (.ptr 2 [])), (5, .v (.ptr 3 [])), (6, .v (.ptr 4 []))],
      [(0, ⟨.arr 4 (.int .u64), .d (.arr 4 (.int .u64)) (u256 m)⟩), (1, ⟨.arr 4 (.int .u64), .d (.arr 4 (.int .u64)) (u256 n)⟩), (2, ⟨.arr 4 (.int .u64), .d (.arr 4 (.int .u64)) (.l [.n 0, .n 0, .n 0, .n 0])⟩), (3, ⟨.arr 4 (.int .u64), .d (.arr 4 (.int .u64)) (.l [.n 0, .n 0, .n 0, .n 0])⟩), (4, ⟨.arr 8 (.int .u64), .d (.arr 8 (.int .u64)) (nl z.2.1)⟩)], 5⟩)
      (fun z => z.1 ≤ 4 ∧ MulI z.2.1 ∧ z.2.2 < 18446744073709551616 ∧ (∀ k, i + 4 ≤ k → z.2.1.getD k 0 = 0) ∧ valL z.2.1 + z.2.2 * 18446744073709551616 ^ (i + z.1) = valL p0 + x * (18446744073709551616 ^ i * (n % 2 ^ (64 * z.1)))) (fun z => 4 - z.1) (0, p0, 0) ?_ ?_ ?_
    · refine sub_ren w0 [(0, 0), (1, 1), (2, 2), (3, 3), (4, 4)] rfl (by simp [keysLt]) rfl ?_ ?_
      · simp [renTm, Go.SE.look, renTV, renSV]
      · simp [renOb, Go.SE.look, renSV]
    · exact ⟨by omega, hI, by simp, hz, by simp [Nat.mod_one]⟩
    rintro ⟨j, p, c⟩ ⟨hj, hP, hc, hzp, hV⟩
    simp only at hj hP hc hzp hV
    simp -dsimp -implicitDefEqProofs (disch := omega) only [↓gpre, ↓bldS, ↓bld, ↓reduceIte, ↓gmore, gpost, gall, keepT, den, del, upd, dels, refs, hasTy, sArgs, aRefs, rvs, nodupB, memB, app, pTm, Ty.bytes, kbytes, Ty.zeroD, Ty.size, Ty.cmp, Ty.depth, Go.SE.look, reduceCtorEq, Nat.reduceAdd, Nat.reduceSub, Nat.reduceMul, Nat.reduceEqDiff, Nat.reduceLT, Nat.reduceLeDiff, Nat.reduceMod, Nat.reduceDiv, Nat.reducePow, Nat.reduceBEq, Int.reduceToNat, Int.reduceLE, Int.reduceLT, Int.reduceEq, Int.reduceAdd, Int.reduceMul, Int.reduceSub, Int.reduceNeg, Int.reduceNe, Try.TS]
    refine HIf_dec (fun hj4 => ?_) (fun hj4 => ?_)
    · have hj4' : j < 4 := by omega
      simp -dsimp -implicitDefEqProofs (disch := omega) only [↓gpre, ↓bldS, ↓bld, ↓reduceIte, ↓gmore, gpost, gall, keepT, den, del, upd, dels, refs, hasTy, sArgs, aRefs, rvs, nodupB, memB, app, pTm, Ty.bytes, kbytes, Ty.zeroD, Ty.size, Ty.cmp, Ty.depth, Go.SE.look, reduceCtorEq, Nat.reduceAdd, Nat.reduceSub, Nat.reduceMul, Nat.reduceEqDiff, Nat.reduceLT, Nat.reduceLeDiff, Nat.reduceMod, Nat.reduceDiv, Nat.reducePow, Nat.reduceBEq, Int.reduceToNat, Int.reduceLE, Int.reduceLT, Int.reduceEq, Int.reduceAdd, Int.reduceMul, Int.reduceSub, Int.reduceNeg, Int.reduceNe, Try.TS]
      refine sdraw Try.hT (by kernel_rfl) [] [0, 1, 2, 3, 4, 5, 6, 7, 8, 9, 10, 11] (by kernel_rfl) (by kernel_rfl) (by kernel_rfl) ?_; simp only [pickO, List.getElem?_toArray, List.getElem?_cons_zero, List.getElem?_cons_succ]
      simp -dsimp -implicitDefEqProofs (disch := omega) only [↓gpre, ↓bldS, ↓bld, ↓reduceIte, ↓gmore, gpost, gall, keepT, den, del, upd, dels, refs, hasTy, sArgs, aRefs, rvs, nodupB, memB, app, pTm, Ty.bytes, kbytes, Ty.zeroD, Ty.size, Ty.cmp, Ty.depth, Go.SE.look, reduceCtorEq, Nat.reduceAdd, Nat.reduceSub, Nat.reduceMul, Nat.reduceEqDiff, Nat.reduceLT, Nat.reduceLeDiff, Nat.reduceMod, Nat.reduceDiv, Nat.reducePow, Nat.reduceBEq, Int.reduceToNat, Int.reduceLE, Int.reduceLT, Int.reduceEq, Int.reduceAdd, Int.reduceMul, Int.reduceSub, Int.reduceNeg, Int.reduceNe, Try.TS, hma, u256_at n hj4', u256_list]
      repeat (refine And.intro (by omega) ?_)
      have hy : n / 2 ^ (64 * j) % 18446744073709551616 < 18446744073709551616 := Nat.mod_lt _ (by omega)
      have hstepn := mod_step n j
      generalize n / 2 ^ (64 * j) % 18446744073709551616 = y at *
      refine mul64 x y hx hy (fun l h hlh hl hh => ?_)
      have hpk := hP.lt (i + j)
      have hlen := hP.len
      simp -dsimp -implicitDefEqProofs (disch := omega) only [↓gpre, ↓bldS, ↓bld, ↓reduceIte, ↓gmore, gpost, gall, keepT, den, del, upd, dels, refs, hasTy, sArgs, aRefs, rvs, nodupB, memB, app, pTm, Ty.bytes, kbytes, Ty.zeroD, Ty.size, Ty.cmp, Ty.depth, Go.SE.look, reduceCtorEq, Nat.reduceAdd, Nat.reduceSub, Nat.reduceMul, Nat.reduceEqDiff, Nat.reduceLT, Nat.reduceLeDiff, Nat.reduceMod, Nat.reduceDiv, Nat.reducePow, Nat.reduceBEq, Int.reduceToNat, Int.reduceLE, Int.reduceLT, Int.reduceEq, Int.reduceAdd, Int.reduceMul, Int.reduceSub, Int.reduceNeg, Int.reduceNe, Try.TS, nl_at]
      repeat (refine And.intro (by omega) ?_)
      refine add64 (p.getD (i + j) 0) l 0 hpk hl (by omega) (fun s1 c1 e1 l1 m1 => ?_)
      simp -dsimp -implicitDefEqProofs (disch := omega) only [↓gpre, ↓bldS, ↓bld, ↓reduceIte, ↓gmore, gpost, gall, keepT, den, del, upd, dels, refs, hasTy, sArgs, aRefs, rvs, nodupB, memB, app, pTm, Ty.bytes, kbytes, Ty.zeroD, Ty.size, Ty.cmp, Ty.depth, Go.SE.look, reduceCtorEq, Nat.reduceAdd, Nat.reduceSub, Nat.reduceMul, Nat.reduceEqDiff, Nat.reduceLT, Nat.reduceLeDiff, Nat.reduceMod, Nat.reduceDiv, Nat.reducePow, Nat.reduceBEq, Int.reduceToNat, Int.reduceLE, Int.reduceLT, Int.reduceEq, Int.reduceAdd, Int.reduceMul, Int.reduceSub, Int.reduceNeg, Int.reduceNe, Try.TS]
      refine add64 s1 c 0 l1 hc (by omega) (fun s2 c2 e2 l2 m2 => ?_)
      have htot : s2 + 18446744073709551616 * (h + c1 + c2) = x * y + p.getD (i + j) 0 + c := by omega
      have hct := carry_lt hx hy hpk hc htot
      simp -dsimp -implicitDefEqProofs (disch := omega) only [↓gpre, ↓bldS, ↓bld, ↓reduceIte, ↓gmore, gpost, gall, keepT, den, del, upd, dels, refs, hasTy, sArgs, aRefs, rvs, nodupB, memB, app, pTm, Ty.bytes, kbytes, Ty.zeroD, Ty.size, Ty.cmp, Ty.depth, Go.SE.look, reduceCtorEq, Nat.reduceAdd, Nat.reduceSub, Nat.reduceMul, Nat.reduceEqDiff, Nat.reduceLT, Nat.reduceLeDiff, Nat.reduceMod, Nat.reduceDiv, Nat.reducePow, Nat.reduceBEq, Int.reduceToNat, Int.reduceLE, Int.reduceLT, Int.reduceEq, Int.reduceAdd, Int.reduceMul, Int.reduceSub, Int.reduceNeg, Int.reduceNe, Try.TS, show IntKind.u64.wrap (IntKind.u64.wrap ((h : Int) + (c1 : Int)) + (c2 : Int)) = ((h + c1 + c2 : Nat) : Int) by rw [IntWalk.u64_in ((h : Int) + c1) (by omega), IntWalk.u64_in _ (by omega)]; omega, nl_set, nl_len]
      repeat (refine And.intro (by omega) ?_)
      refine ⟨(j + 1, p.set (i + j) s2, h + c1 + c2), ⟨by omega, hP.set l2, hct, fun k hk => ?_, ?_⟩, by omega, ?_⟩
      · have := hzp k hk
        rw [List.getD_eq_getElem?_getD, List.getElem?_set, if_neg (by omega), ← List.getD_eq_getElem?_getD]
        exact this
      · have hset := valL_set p (i + j) s2 (by omega)
        have := mul_step (K := 18446744073709551616 ^ (i + j)) (E := 18446744073709551616 ^ i) (J := 18446744073709551616 ^ j) (Nat.pow_add _ _ _) hset htot hV
        rw [← Nat.pow_succ, ← hstepn] at this
        exact this
      · refine sub_ren w0 [(0, 0), (1, 1), (2, 2), (3, 3), (4, 4)] rfl (by simp [keysLt]) rfl ?_ ?_
        · simp [renTm, Go.SE.look, renTV, renSV]
        · simp [renOb, Go.SE.look, renSV]
    · have : j = 4 := by omega
      subst this
      have hlen := hP.len
      simp -dsimp -implicitDefEqProofs (disch := omega) only [↓gpre, ↓bldS, ↓bld, ↓reduceIte, ↓gmore, gpost, gall, keepT, den, del, upd, dels, refs, hasTy, sArgs, aRefs, rvs, nodupB, memB, app, pTm, Ty.bytes, kbytes, Ty.zeroD, Ty.size, Ty.cmp, Ty.depth, Go.SE.look, reduceCtorEq, Nat.reduceAdd, Nat.reduceSub, Nat.reduceMul, Nat.reduceEqDiff, Nat.reduceLT, Nat.reduceLeDiff, Nat.reduceMod, Nat.reduceDiv, Nat.reducePow, Nat.reduceBEq, Int.reduceToNat, Int.reduceLE, Int.reduceLT, Int.reduceEq, Int.reduceAdd, Int.reduceMul, Int.reduceSub, Int.reduceNeg, Int.reduceNe, Try.TS, nl_set, nl_len]
      repeat (refine And.intro (by omega) ?_)
      refine ⟨(i + 1, p.set (i + 4) c), ⟨by omega, hP.set hc, fun k hk => ?_, ?_⟩, by simp; omega, ?_⟩
      · rw [List.getD_eq_getElem?_getD, List.getElem?_set, if_neg (by simp at hk; omega), ← List.getD_eq_getElem?_getD]
        exact hzp k (by simp at hk; omega)
      · have hset := valL_set p (i + 4) c (by omega)
        rw [hzp (i + 4) (by omega), Nat.zero_mul, Nat.add_zero, hV, hv, Nat.mod_eq_of_lt (a := n) hn] at hset
        show valL (p.set (i + 4) c) = _
        rw [hset, hstep, Nat.add_mul]
        congr 1
        rw [← Nat.mul_assoc, Nat.mul_comm x]
      · refine sub_ren w0 [(0, 0), (1, 1), (2, 2), (3, 3), (4, 4)] rfl (by simp [keysLt]) rfl ?_ ?_
        · simp [renTm, Go.SE.look, renTV, renSV]
        · simp [renOb, Go.SE.look, renSV]
  · have : i = 4 := by omega
    subst this
    have hlen := hI.len
    rw [Nat.mod_eq_of_lt (a := m) hm] at hv
    have hlt := hI.lt
    match p0, hlen with
    | [a0, a1, a2, a3, a4, a5, a6, a7], _ =>
    have q0 := hlt 0
    have q1 := hlt 1
    have q2 := hlt 2
    have q3 := hlt 3
    have q4 := hlt 4
    have q5 := hlt 5
    have q6 := hlt 6
    have q7 := hlt 7
    simp only [List.getD_cons_zero, List.getD_cons_succ] at q0 q1 q2 q3 q4 q5 q6 q7
    simp only [valL] at hv
    simp only [nl, List.map_cons, List.map_nil]
    simp -dsimp -implicitDefEqProofs (disch := omega) only [↓gpre, ↓bldS, ↓bld, ↓reduceIte, ↓gmore, gpost, gall, keepT, den, del, upd, dels, refs, hasTy, sArgs, aRefs, rvs, nodupB, memB, app, pTm, Ty.bytes, kbytes, Ty.zeroD, Ty.size, Ty.cmp, Ty.depth, Go.SE.look, reduceCtorEq, Nat.reduceAdd, Nat.reduceSub, Nat.reduceMul, Nat.reduceEqDiff, Nat.reduceLT, Nat.reduceLeDiff, Nat.reduceMod, Nat.reduceDiv, Nat.reducePow, Nat.reduceBEq, Int.reduceToNat, Int.reduceLE, Int.reduceLT, Int.reduceEq, Int.reduceAdd, Int.reduceMul, Int.reduceSub, Int.reduceNeg, Int.reduceNe, Try.TS]
    refine sdraw Try.hT (by kernel_rfl) [2] [0, 1, 2] (by kernel_rfl) (by kernel_rfl) (by kernel_rfl) ?_; simp only [pickO, List.getElem?_toArray, List.getElem?_cons_zero, List.getElem?_cons_succ]
    simp -dsimp -implicitDefEqProofs (disch := omega) only [↓gpre, ↓bldS, ↓bld, ↓reduceIte, ↓gmore, gpost, gall, keepT, den, del, upd, dels, refs, hasTy, sArgs, aRefs, rvs, nodupB, memB, app, pTm, Ty.bytes, kbytes, Ty.zeroD, Ty.size, Ty.cmp, Ty.depth, Go.SE.look, reduceCtorEq, Nat.reduceAdd, Nat.reduceSub, Nat.reduceMul, Nat.reduceEqDiff, Nat.reduceLT, Nat.reduceLeDiff, Nat.reduceMod, Nat.reduceDiv, Nat.reducePow, Nat.reduceBEq, Int.reduceToNat, Int.reduceLE, Int.reduceLT, Int.reduceEq, Int.reduceAdd, Int.reduceMul, Int.reduceSub, Int.reduceNeg, Int.reduceNe, Try.TS, Nat.min_self]
    refine sdraw Try.hT (by kernel_rfl) [2] [0, 1, 2] (by kernel_rfl) (by kernel_rfl) (by kernel_rfl) ?_; simp only [pickO, List.getElem?_toArray, List.getElem?_cons_zero, List.getElem?_cons_succ]
    simp -dsimp -implicitDefEqProofs (disch := omega) only [↓gpre, ↓bldS, ↓bld, ↓reduceIte, ↓gmore, gpost, gall, keepT, den, del, upd, dels, refs, hasTy, sArgs, aRefs, rvs, nodupB, memB, app, pTm, Ty.bytes, kbytes, Ty.zeroD, Ty.size, Ty.cmp, Ty.depth, Go.SE.look, reduceCtorEq, Nat.reduceAdd, Nat.reduceSub, Nat.reduceMul, Nat.reduceEqDiff, Nat.reduceLT, Nat.reduceLeDiff, Nat.reduceMod, Nat.reduceDiv, Nat.reducePow, Nat.reduceBEq, Int.reduceToNat, Int.reduceLE, Int.reduceLT, Int.reduceEq, Int.reduceAdd, Int.reduceMul, Int.reduceSub, Int.reduceNeg, Int.reduceNe, Try.TS, Nat.min_self]
    rw [u256_mk (n := m * n % 115792089237316195423570985008687907853269984665640564039457584007913129639936) q0 q1 q2 q3 (by omega), u256_mk (n := m * n / 115792089237316195423570985008687907853269984665640564039457584007913129639936) q4 q5 q6 q7 (by omega)]
end Go.Proofs
