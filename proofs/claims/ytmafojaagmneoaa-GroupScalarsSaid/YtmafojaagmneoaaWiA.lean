/- Numbers of 256 bits as four words; the machine's own carries. -/
import Derived.Test.YtmafojaagmneoaaTb
import Derived.Test.YtmafojaagmneoaaSeS
import Derived.Laws.Externs
import Derived.Shelf.Spec.BitsCarry
set_option linter.unusedVariables false
set_option linter.unusedSimpArgs false
set_option linter.constructorNameAsVariable false
namespace Go.Proofs
open Go.SE

/-- A number of 256 bits. -/
def u256 (n : Nat) : D := .l [.n ((n % 18446744073709551616 : Nat) : Int), .n ((n / 18446744073709551616 % 18446744073709551616 : Nat) : Int), .n ((n / 340282366920938463463374607431768211456 % 18446744073709551616 : Nat) : Int), .n ((n / 6277101735386680763835789423207666416102355444464034512896 % 18446744073709551616 : Nat) : Int)]

theorem u256_mk {a b c d n : Nat} (ha : a < 18446744073709551616) (hb : b < 18446744073709551616) (hc : c < 18446744073709551616) (hd : d < 18446744073709551616)
    (h : n = a + 18446744073709551616 * b + 340282366920938463463374607431768211456 * c + 6277101735386680763835789423207666416102355444464034512896 * d) : D.l [.n (a : Int), .n (b : Int), .n (c : Int), .n (d : Int)] = u256 n := by
  unfold u256
  have h1 : n % 18446744073709551616 = a := by omega
  have h2 : n / 18446744073709551616 % 18446744073709551616 = b := by omega
  have h3 : n / 340282366920938463463374607431768211456 % 18446744073709551616 = c := by omega
  have h4 : n / 6277101735386680763835789423207666416102355444464034512896 % 18446744073709551616 = d := by omega
  rw [h1, h2, h3, h4]

theorem u256_open (n : Nat) (hn : n < 115792089237316195423570985008687907853269984665640564039457584007913129639936) : ∃ a b c d : Nat, a < 18446744073709551616 ∧ b < 18446744073709551616 ∧ c < 18446744073709551616 ∧ d < 18446744073709551616 ∧
    n = a + 18446744073709551616 * b + 340282366920938463463374607431768211456 * c + 6277101735386680763835789423207666416102355444464034512896 * d ∧ u256 n = D.l [.n (a : Int), .n (b : Int), .n (c : Int), .n (d : Int)] :=
  ⟨_, _, _, _, by omega, by omega, by omega, by omega, by omega, rfl⟩

theorem u256_fit {x : D} (h : Fit (.arr 4 (.int .u64)) x) : ∃ n, n < 115792089237316195423570985008687907853269984665640564039457584007913129639936 ∧ x = u256 n := by
  obtain ⟨l, rfl, hl, hf⟩ := h
  match l, hl with
  | [a, b, c, d], _ =>
    obtain ⟨a, rfl, ha⟩ := (hf a (by simp)).u64
    obtain ⟨b, rfl, hb⟩ := (hf b (by simp)).u64
    obtain ⟨c, rfl, hc⟩ := (hf c (by simp)).u64
    obtain ⟨d, rfl, hd⟩ := (hf d (by simp)).u64
    exact ⟨_, by omega, u256_mk ha hb hc hd rfl⟩

theorem u256_inj {m n : Nat} (hm : m < 115792089237316195423570985008687907853269984665640564039457584007913129639936) (hn : n < 115792089237316195423570985008687907853269984665640564039457584007913129639936) :
    deq (.arr 4 (.int .u64)) (u256 m) (u256 n) = decide (m = n) := by
  by_cases e : m = n
  · subst e; simp [deq_self]
  · cases h : deq (.arr 4 (.int .u64)) (u256 m) (u256 n) with
    | false => simp [e]
    | true =>
      exfalso
      simp only [deq, u256, List.range, List.range.loop, List.all_cons, List.all_nil, D.at, D.list, List.getD_cons_zero, List.getD_cons_succ, D.int, Bool.and_true, Bool.and_eq_true, beq_iff_eq, Int.natCast_inj] at h
      omega

theorem args3 {w : World} {S : Nat → Prop} {k : IntKind} {x y z : Int} {vs : List Value} (h : ArgsOk w S [(.int k, .n x), (.int k, .n y), (.int k, .n z)] vs) : vs = [.int k x, .int k y, .int k z] := by
  match vs, h with
  | [a, b, c], ⟨h1, h2, h3, _⟩ =>
    obtain ⟨_, rfl, e1⟩ := RdV.int h1
    obtain ⟨_, rfl, e2⟩ := RdV.int h2
    obtain ⟨_, rfl, e3⟩ := RdV.int h3
    cases e1; cases e2; cases e3; rfl

theorem rep4 {x : D} : List.replicate 4 x = [x, x, x, x] := rfl
theorem rep8 {x : D} : List.replicate 8 x = [x, x, x, x, x, x, x, x] := rfl

theorem add64 (x y c : Nat) (hx : x < 18446744073709551616) (hy : y < 18446744073709551616) (hc : c ≤ 1) {K : List RV → Prop}
    (h : ∀ s d : Nat, s + 18446744073709551616 * d = x + y + c → s < 18446744073709551616 → d ≤ 1 → K [.d (.int .u64) (.n s), .d (.int .u64) (.n d)]) :
    SCall Try.prog 66 [(.int .u64, .n x), (.int .u64, .n y), (.int .u64, .n c)] K := by
  refine .inr ⟨_, h ((x + y + c) % 18446744073709551616) ((x + y + c) / 18446744073709551616) (by omega) (by omega) (by omega), rfl, rfl, fun w S vs ha => ?_⟩
  obtain rfl := args3 ha
  refine ⟨[.int .u64 (((x + y + c) % 18446744073709551616 : Nat) : Int), .int .u64 (((x + y + c) / 18446744073709551616 : Nat) : Int)], ?_, rfl, ?_⟩
  · rw [run_callFunc_extern Try.func66 (by kernel_rfl) (by kernel_rfl) (by kernel_rfl) (e := add64Entry) (by kernel_rfl)]
    rw [run_add64 x y c (by omega) (by omega) (by omega) (by omega)]
    simp only [Result.andThen, tupV]
    congr 5 <;> omega
  · intro i r v hr hv
    match i with
    | 0 => simp at hr hv; subst hr; subst hv; exact RdV.mk_int _ _
    | 1 => simp at hr hv; subst hr; subst hv; exact RdV.mk_int _ _
    | n + 2 => simp at hr

theorem sub64 (x y c : Nat) (hx : x < 18446744073709551616) (hy : y < 18446744073709551616) (hc : c ≤ 1) {K : List RV → Prop}
    (h : ∀ s d : Nat, s + y + c = x + 18446744073709551616 * d → s < 18446744073709551616 → d ≤ 1 → K [.d (.int .u64) (.n s), .d (.int .u64) (.n d)]) :
    SCall Try.prog 61 [(.int .u64, .n x), (.int .u64, .n y), (.int .u64, .n c)] K := by
  refine .inr ⟨_, h ((x + 18446744073709551616 - y - c) % 18446744073709551616) (if x < y + c then 1 else 0) (by split <;> omega) (by omega) (by split <;> omega), rfl, rfl, fun w S vs ha => ?_⟩
  obtain rfl := args3 ha
  refine ⟨[.int .u64 (((x + 18446744073709551616 - y - c) % 18446744073709551616 : Nat) : Int), .int .u64 ((if x < y + c then 1 else 0 : Nat) : Int)], ?_, rfl, ?_⟩
  · rw [run_callFunc_extern Try.func61 (by kernel_rfl) (by kernel_rfl) (by kernel_rfl) (e := sub64Entry) (by kernel_rfl)]
    rw [run_sub64 x y c hc]
    simp only [Result.andThen, tupV]
  · intro i r v hr hv
    match i with
    | 0 => simp at hr hv; subst hr; subst hv; exact RdV.mk_int _ _
    | 1 => simp at hr hv; subst hr; subst hv; exact RdV.mk_int _ _
    | n + 2 => simp at hr

set_option maxHeartbeats 4000000 in
theorem fromUint (n : Nat) (hn : n < 18446744073709551616) : SCall Try.prog 36 [(.int .u64, .n n)] (fun rs => rs = [.d (.arr 4 (.int .u64)) (u256 n)]) := by
  refine scall_intro (n := 5) (rl := [.cell 2 24]) (us := [24]) Try.hT Try.func36 rfl rfl rfl rfl rfl (Nat.le_of_ble_eq_true rfl) ?_
  intro w0
  simp -dsimp -implicitDefEqProofs (disch := omega) only [↓gpre, ↓bldS, ↓bld, ↓reduceIte, ↓gmore, gpost, gall, keepT, den, del, upd, dels, refs, hasTy, sArgs, aRefs, rvs, nodupB, memB, app, pTm, Ty.bytes, kbytes, Ty.zeroD, Ty.size, Ty.cmp, Ty.depth, Go.SE.look, reduceCtorEq, Nat.reduceAdd, Nat.reduceSub, Nat.reduceMul, Nat.reduceEqDiff, Nat.reduceLT, Nat.reduceLeDiff, Nat.reduceMod, Nat.reduceDiv, Nat.reducePow, Nat.reduceBEq, Int.reduceToNat, Int.reduceLE, Int.reduceLT, Int.reduceEq, Int.reduceAdd, Int.reduceMul, Int.reduceSub, Int.reduceNeg, Int.reduceNe, Try.TS, rep4]
  rw [← u256_mk (a := n) (b := 0) (c := 0) (d := 0) hn (by omega) (by omega) (by omega) (by omega)]
  rfl

set_option maxHeartbeats 4000000 in
theorem fromUintRef (n : Nat) (hn : n < 18446744073709551616) : SCall Try.prog 38 [(.int .u64, .n n)] (fun rs => rs = [.d (.arr 4 (.int .u64)) (u256 n)]) := by
  refine scall_intro (n := 5) (rl := [.cell 2 24]) (us := [24]) Try.hT Try.func38 rfl rfl rfl rfl rfl (Nat.le_of_ble_eq_true rfl) ?_
  intro w0
  simp -dsimp -implicitDefEqProofs (disch := omega) only [↓gpre, ↓bldS, ↓bld, ↓reduceIte, ↓gmore, gpost, gall, keepT, den, del, upd, dels, refs, hasTy, sArgs, aRefs, rvs, nodupB, memB, app, pTm, Ty.bytes, kbytes, Ty.zeroD, Ty.size, Ty.cmp, Ty.depth, Go.SE.look, reduceCtorEq, Nat.reduceAdd, Nat.reduceSub, Nat.reduceMul, Nat.reduceEqDiff, Nat.reduceLT, Nat.reduceLeDiff, Nat.reduceMod, Nat.reduceDiv, Nat.reducePow, Nat.reduceBEq, Int.reduceToNat, Int.reduceLE, Int.reduceLT, Int.reduceEq, Int.reduceAdd, Int.reduceMul, Int.reduceSub, Int.reduceNeg, Int.reduceNe, Try.TS, rep4]
  rw [← u256_mk (a := n) (b := 0) (c := 0) (d := 0) hn (by omega) (by omega) (by omega) (by omega)]
  rfl

set_option maxHeartbeats 4000000 in
theorem wadd (m n : Nat) (hm : m < 115792089237316195423570985008687907853269984665640564039457584007913129639936) (hn : n < 115792089237316195423570985008687907853269984665640564039457584007913129639936) :
    SCall Try.prog 67 [(.arr 4 (.int .u64), u256 m), (.arr 4 (.int .u64), u256 n)] (fun rs => rs = [.d (.arr 4 (.int .u64)) (u256 ((m + n) % 115792089237316195423570985008687907853269984665640564039457584007913129639936)), .d .bool (.b (decide (115792089237316195423570985008687907853269984665640564039457584007913129639936 ≤ m + n)))]) := by
  obtain ⟨a0, a1, a2, a3, ha0, ha1, ha2, ha3, em, eu⟩ := u256_open m hm
  obtain ⟨b0, b1, b2, b3, hb0, hb1, hb2, hb3, en, ev⟩ := u256_open n hn
  rw [eu, ev]
  refine scall_intro (n := 29) (rl := [.cell 4 24, .tmp 5]) (us := [24, 4]) Try.hT Try.func67 rfl rfl rfl rfl rfl (Nat.le_of_ble_eq_true rfl) ?_
  intro w0
  simp -dsimp -implicitDefEqProofs (disch := omega) only [↓gpre, ↓bldS, ↓bld, ↓reduceIte, ↓gmore, gpost, gall, keepT, den, del, upd, dels, refs, hasTy, sArgs, aRefs, rvs, nodupB, memB, app, pTm, Ty.bytes, kbytes, Ty.zeroD, Ty.size, Ty.cmp, Ty.depth, Go.SE.look, reduceCtorEq, Nat.reduceAdd, Nat.reduceSub, Nat.reduceMul, Nat.reduceEqDiff, Nat.reduceLT, Nat.reduceLeDiff, Nat.reduceMod, Nat.reduceDiv, Nat.reducePow, Nat.reduceBEq, Int.reduceToNat, Int.reduceLE, Int.reduceLT, Int.reduceEq, Int.reduceAdd, Int.reduceMul, Int.reduceSub, Int.reduceNeg, Int.reduceNe, Try.TS, rep4]
  refine sunroll Try.hT ?_; simp -dsimp -implicitDefEqProofs (disch := omega) only [↓gpre, ↓bldS, ↓bld, ↓reduceIte, ↓gmore, gpost, gall, keepT, den, del, upd, dels, refs, hasTy, sArgs, aRefs, rvs, nodupB, memB, app, pTm, Ty.bytes, kbytes, Ty.zeroD, Ty.size, Ty.cmp, Ty.depth, Go.SE.look, reduceCtorEq, Nat.reduceAdd, Nat.reduceSub, Nat.reduceMul, Nat.reduceEqDiff, Nat.reduceLT, Nat.reduceLeDiff, Nat.reduceMod, Nat.reduceDiv, Nat.reducePow, Nat.reduceBEq, Int.reduceToNat, Int.reduceLE, Int.reduceLT, Int.reduceEq, Int.reduceAdd, Int.reduceMul, Int.reduceSub, Int.reduceNeg, Int.reduceNe, Try.TS, rep4]
  refine sdraw Try.hT (by kernel_rfl) [13] [0, 1, 2, 3, 4, 5, 6, 7, 8, 9, 10, 11, 12, 13, 14] (by kernel_rfl) (by kernel_rfl) (by kernel_rfl) ?_; simp only [pickO, List.getElem?_toArray, List.getElem?_cons_zero, List.getElem?_cons_succ]
  simp -dsimp -implicitDefEqProofs (disch := omega) only [↓gpre, ↓bldS, ↓bld, ↓reduceIte, ↓gmore, gpost, gall, keepT, den, del, upd, dels, refs, hasTy, sArgs, aRefs, rvs, nodupB, memB, app, pTm, Ty.bytes, kbytes, Ty.zeroD, Ty.size, Ty.cmp, Ty.depth, Go.SE.look, reduceCtorEq, Nat.reduceAdd, Nat.reduceSub, Nat.reduceMul, Nat.reduceEqDiff, Nat.reduceLT, Nat.reduceLeDiff, Nat.reduceMod, Nat.reduceDiv, Nat.reducePow, Nat.reduceBEq, Int.reduceToNat, Int.reduceLE, Int.reduceLT, Int.reduceEq, Int.reduceAdd, Int.reduceMul, Int.reduceSub, Int.reduceNeg, Int.reduceNe, Try.TS, rep4]
  refine add64 _ _ 0 ha0 hb0 (by omega) (fun s0 c0 e0 l0 m0 => ?_)
  simp -dsimp -implicitDefEqProofs (disch := omega) only [↓gpre, ↓bldS, ↓bld, ↓reduceIte, ↓gmore, gpost, gall, keepT, den, del, upd, dels, refs, hasTy, sArgs, aRefs, rvs, nodupB, memB, app, pTm, Ty.bytes, kbytes, Ty.zeroD, Ty.size, Ty.cmp, Ty.depth, Go.SE.look, reduceCtorEq, Nat.reduceAdd, Nat.reduceSub, Nat.reduceMul, Nat.reduceEqDiff, Nat.reduceLT, Nat.reduceLeDiff, Nat.reduceMod, Nat.reduceDiv, Nat.reducePow, Nat.reduceBEq, Int.reduceToNat, Int.reduceLE, Int.reduceLT, Int.reduceEq, Int.reduceAdd, Int.reduceMul, Int.reduceSub, Int.reduceNeg, Int.reduceNe, Try.TS, rep4]
  refine sunroll Try.hT ?_; simp -dsimp -implicitDefEqProofs (disch := omega) only [↓gpre, ↓bldS, ↓bld, ↓reduceIte, ↓gmore, gpost, gall, keepT, den, del, upd, dels, refs, hasTy, sArgs, aRefs, rvs, nodupB, memB, app, pTm, Ty.bytes, kbytes, Ty.zeroD, Ty.size, Ty.cmp, Ty.depth, Go.SE.look, reduceCtorEq, Nat.reduceAdd, Nat.reduceSub, Nat.reduceMul, Nat.reduceEqDiff, Nat.reduceLT, Nat.reduceLeDiff, Nat.reduceMod, Nat.reduceDiv, Nat.reducePow, Nat.reduceBEq, Int.reduceToNat, Int.reduceLE, Int.reduceLT, Int.reduceEq, Int.reduceAdd, Int.reduceMul, Int.reduceSub, Int.reduceNeg, Int.reduceNe, Try.TS, rep4]
  refine sdraw Try.hT (by kernel_rfl) [13] [0, 1, 2, 3, 4, 5, 6, 7, 8, 9, 10, 11, 12, 13, 14] (by kernel_rfl) (by kernel_rfl) (by kernel_rfl) ?_; simp only [pickO, List.getElem?_toArray, List.getElem?_cons_zero, List.getElem?_cons_succ]
  simp -dsimp -implicitDefEqProofs (disch := omega) only [↓gpre, ↓bldS, ↓bld, ↓reduceIte, ↓gmore, gpost, gall, keepT, den, del, upd, dels, refs, hasTy, sArgs, aRefs, rvs, nodupB, memB, app, pTm, Ty.bytes, kbytes, Ty.zeroD, Ty.size, Ty.cmp, Ty.depth, Go.SE.look, reduceCtorEq, Nat.reduceAdd, Nat.reduceSub, Nat.reduceMul, Nat.reduceEqDiff, Nat.reduceLT, Nat.reduceLeDiff, Nat.reduceMod, Nat.reduceDiv, Nat.reducePow, Nat.reduceBEq, Int.reduceToNat, Int.reduceLE, Int.reduceLT, Int.reduceEq, Int.reduceAdd, Int.reduceMul, Int.reduceSub, Int.reduceNeg, Int.reduceNe, Try.TS, rep4]
  refine add64 _ _ _ ha1 hb1 m0 (fun s1 c1 e1 l1 m1 => ?_)
  simp -dsimp -implicitDefEqProofs (disch := omega) only [↓gpre, ↓bldS, ↓bld, ↓reduceIte, ↓gmore, gpost, gall, keepT, den, del, upd, dels, refs, hasTy, sArgs, aRefs, rvs, nodupB, memB, app, pTm, Ty.bytes, kbytes, Ty.zeroD, Ty.size, Ty.cmp, Ty.depth, Go.SE.look, reduceCtorEq, Nat.reduceAdd, Nat.reduceSub, Nat.reduceMul, Nat.reduceEqDiff, Nat.reduceLT, Nat.reduceLeDiff, Nat.reduceMod, Nat.reduceDiv, Nat.reducePow, Nat.reduceBEq, Int.reduceToNat, Int.reduceLE, Int.reduceLT, Int.reduceEq, Int.reduceAdd, Int.reduceMul, Int.reduceSub, Int.reduceNeg, Int.reduceNe, Try.TS, rep4]
  refine sunroll Try.hT ?_; simp -dsimp -implicitDefEqProofs (disch := omega) only [↓gpre, ↓bldS, ↓bld, ↓reduceIte, ↓gmore, gpost, gall, keepT, den, del, upd, dels, refs, hasTy, sArgs, aRefs, rvs, nodupB, memB, app, pTm, Ty.bytes, kbytes, Ty.zeroD, Ty.size, Ty.cmp, Ty.depth, Go.SE.look, reduceCtorEq, Nat.reduceAdd, Nat.reduceSub, Nat.reduceMul, Nat.reduceEqDiff, Nat.reduceLT, Nat.reduceLeDiff, Nat.reduceMod, Nat.reduceDiv, Nat.reducePow, Nat.reduceBEq, Int.reduceToNat, Int.reduceLE, Int.reduceLT, Int.reduceEq, Int.reduceAdd, Int.reduceMul, Int.reduceSub, Int.reduceNeg, Int.reduceNe, Try.TS, rep4]
  refine sdraw Try.hT (by kernel_rfl) [13] [0, 1, 2, 3, 4, 5, 6, 7, 8, 9, 10, 11, 12, 13, 14] (by kernel_rfl) (by kernel_rfl) (by kernel_rfl) ?_; simp only [pickO, List.getElem?_toArray, List.getElem?_cons_zero, List.getElem?_cons_succ]
  simp -dsimp -implicitDefEqProofs (disch := omega) only [↓gpre, ↓bldS, ↓bld, ↓reduceIte, ↓gmore, gpost, gall, keepT, den, del, upd, dels, refs, hasTy, sArgs, aRefs, rvs, nodupB, memB, app, pTm, Ty.bytes, kbytes, Ty.zeroD, Ty.size, Ty.cmp, Ty.depth, Go.SE.look, reduceCtorEq, Nat.reduceAdd, Nat.reduceSub, Nat.reduceMul, Nat.reduceEqDiff, Nat.reduceLT, Nat.reduceLeDiff, Nat.reduceMod, Nat.reduceDiv, Nat.reducePow, Nat.reduceBEq, Int.reduceToNat, Int.reduceLE, Int.reduceLT, Int.reduceEq, Int.reduceAdd, Int.reduceMul, Int.reduceSub, Int.reduceNeg, Int.reduceNe, Try.TS, rep4]
  refine add64 _ _ _ ha2 hb2 m1 (fun s2 c2 e2 l2 m2 => ?_)
  simp -dsimp -implicitDefEqProofs (disch := omega) only [↓gpre, ↓bldS, ↓bld, ↓reduceIte, ↓gmore, gpost, gall, keepT, den, del, upd, dels, refs, hasTy, sArgs, aRefs, rvs, nodupB, memB, app, pTm, Ty.bytes, kbytes, Ty.zeroD, Ty.size, Ty.cmp, Ty.depth, Go.SE.look, reduceCtorEq, Nat.reduceAdd, Nat.reduceSub, Nat.reduceMul, Nat.reduceEqDiff, Nat.reduceLT, Nat.reduceLeDiff, Nat.reduceMod, Nat.reduceDiv, Nat.reducePow, Nat.reduceBEq, Int.reduceToNat, Int.reduceLE, Int.reduceLT, Int.reduceEq, Int.reduceAdd, Int.reduceMul, Int.reduceSub, Int.reduceNeg, Int.reduceNe, Try.TS, rep4]
  refine sunroll Try.hT ?_; simp -dsimp -implicitDefEqProofs (disch := omega) only [↓gpre, ↓bldS, ↓bld, ↓reduceIte, ↓gmore, gpost, gall, keepT, den, del, upd, dels, refs, hasTy, sArgs, aRefs, rvs, nodupB, memB, app, pTm, Ty.bytes, kbytes, Ty.zeroD, Ty.size, Ty.cmp, Ty.depth, Go.SE.look, reduceCtorEq, Nat.reduceAdd, Nat.reduceSub, Nat.reduceMul, Nat.reduceEqDiff, Nat.reduceLT, Nat.reduceLeDiff, Nat.reduceMod, Nat.reduceDiv, Nat.reducePow, Nat.reduceBEq, Int.reduceToNat, Int.reduceLE, Int.reduceLT, Int.reduceEq, Int.reduceAdd, Int.reduceMul, Int.reduceSub, Int.reduceNeg, Int.reduceNe, Try.TS, rep4]
  refine sdraw Try.hT (by kernel_rfl) [13] [0, 1, 2, 3, 4, 5, 6, 7, 8, 9, 10, 11, 12, 13, 14] (by kernel_rfl) (by kernel_rfl) (by kernel_rfl) ?_; simp only [pickO, List.getElem?_toArray, List.getElem?_cons_zero, List.getElem?_cons_succ]
  simp -dsimp -implicitDefEqProofs (disch := omega) only [↓gpre, ↓bldS, ↓bld, ↓reduceIte, ↓gmore, gpost, gall, keepT, den, del, upd, dels, refs, hasTy, sArgs, aRefs, rvs, nodupB, memB, app, pTm, Ty.bytes, kbytes, Ty.zeroD, Ty.size, Ty.cmp, Ty.depth, Go.SE.look, reduceCtorEq, Nat.reduceAdd, Nat.reduceSub, Nat.reduceMul, Nat.reduceEqDiff, Nat.reduceLT, Nat.reduceLeDiff, Nat.reduceMod, Nat.reduceDiv, Nat.reducePow, Nat.reduceBEq, Int.reduceToNat, Int.reduceLE, Int.reduceLT, Int.reduceEq, Int.reduceAdd, Int.reduceMul, Int.reduceSub, Int.reduceNeg, Int.reduceNe, Try.TS, rep4]
  refine add64 _ _ _ ha3 hb3 m2 (fun s3 c3 e3 l3 m3 => ?_)
  simp -dsimp -implicitDefEqProofs (disch := omega) only [↓gpre, ↓bldS, ↓bld, ↓reduceIte, ↓gmore, gpost, gall, keepT, den, del, upd, dels, refs, hasTy, sArgs, aRefs, rvs, nodupB, memB, app, pTm, Ty.bytes, kbytes, Ty.zeroD, Ty.size, Ty.cmp, Ty.depth, Go.SE.look, reduceCtorEq, Nat.reduceAdd, Nat.reduceSub, Nat.reduceMul, Nat.reduceEqDiff, Nat.reduceLT, Nat.reduceLeDiff, Nat.reduceMod, Nat.reduceDiv, Nat.reducePow, Nat.reduceBEq, Int.reduceToNat, Int.reduceLE, Int.reduceLT, Int.reduceEq, Int.reduceAdd, Int.reduceMul, Int.reduceSub, Int.reduceNeg, Int.reduceNe, Try.TS, rep4]
  refine sunroll Try.hT ?_; simp -dsimp -implicitDefEqProofs (disch := omega) only [↓gpre, ↓bldS, ↓bld, ↓reduceIte, ↓gmore, gpost, gall, keepT, den, del, upd, dels, refs, hasTy, sArgs, aRefs, rvs, nodupB, memB, app, pTm, Ty.bytes, kbytes, Ty.zeroD, Ty.size, Ty.cmp, Ty.depth, Go.SE.look, reduceCtorEq, Nat.reduceAdd, Nat.reduceSub, Nat.reduceMul, Nat.reduceEqDiff, Nat.reduceLT, Nat.reduceLeDiff, Nat.reduceMod, Nat.reduceDiv, Nat.reducePow, Nat.reduceBEq, Int.reduceToNat, Int.reduceLE, Int.reduceLT, Int.reduceEq, Int.reduceAdd, Int.reduceMul, Int.reduceSub, Int.reduceNeg, Int.reduceNe, Try.TS, rep4]
  have hb : (!decide ((c3 : Int) = 0)) = decide (115792089237316195423570985008687907853269984665640564039457584007913129639936 ≤ m + n) := by rw [← decide_not]; exact decide_eq_decide.2 (by omega)
  rw [u256_mk l0 l1 l2 l3 (n := (m + n) % 115792089237316195423570985008687907853269984665640564039457584007913129639936) (by omega), hb]
end Go.Proofs
