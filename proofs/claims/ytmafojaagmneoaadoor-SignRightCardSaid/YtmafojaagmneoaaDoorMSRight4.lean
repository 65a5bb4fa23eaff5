/- Merged: SgB SgC SgD SgE SgF SgG SgH Laid Law0. -/
import Derived.Test.YtmafojaagmneoaaDoorRows
import Derived.Lib.LaidTab
import Derived.Test.YtmafojaagmneoaaDoorMSRight3
set_option linter.unusedVariables false
set_option linter.unusedSimpArgs false
set_option linter.constructorNameAsVariable false
/- Signatures: keys, challenges. -/
namespace Go.Proofs
open Go.SE

def tagC : ByteArray := { data := #[108, 105, 103, 104, 116, 99, 108, 105, 101, 110, 116, 47, 99, 104, 97, 108, 108, 101, 110, 103, 101] }
def tagN : ByteArray := { data := #[108, 105, 103, 104, 116, 99, 108, 105, 101, 110, 116, 47, 110, 111, 110, 99, 101] }
/-- The challenge. -/
def chal (r x : Nat) (m : List D) : Nat := fb (shaT (bytesD tagC) (toB r ++ toB x ++ m)) % 57896044618658097711785492504343953926634992332820282019728792003956564801911
def nonS (x : Nat) (m : List D) : Nat := fb (shaT (bytesD tagN) (toB x ++ m)) % 57896044618658097711785492504343953926634992332820282019728792003956564801911
/-- The nonce. -/
def nonc (x : Nat) (m : List D) : Nat := if nonS x m = 0 then 1 else nonS x m
theorem chal_lt (r x : Nat) (m : List D) : chal r x m < 57896044618658097711785492504343953926634992332820282019728792003956564801911 := Nat.mod_lt _ (by omega)
theorem nonS_lt (x : Nat) (m : List D) : nonS x m < 57896044618658097711785492504343953926634992332820282019728792003956564801911 := Nat.mod_lt _ (by omega)
theorem nonc_lt (x : Nat) (m : List D) : nonc x m < 57896044618658097711785492504343953926634992332820282019728792003956564801911 := by unfold nonc; split; omega; exact nonS_lt x m
theorem shaT_len (t b : List D) : (shaT t b).length = 32 := sha_len _
theorem shaT_by (t b : List D) : BY (shaT t b) := sha_by _
/-- Scalars of secrets. -/
def secB (x : Nat) : Bool := decide (x ≠ 0) && decide (x < 57896044618658097711785492504343953926634992332820282019728792003956564801911)

theorem cmp_lt (x y : Nat) : decide ((if x < y then (-1 : Int) else if y < x then 1 else 0) < 0) = decide (x < y) := decide_eq_decide.2 (by split <;> (try split) <;> omega)

set_option maxHeartbeats 4000000 in
theorem sscalar (x : Nat) (hx : x < 115792089237316195423570985008687907853269984665640564039457584007913129639936) : SCall Tryd.prog 48 [(.arr 4 (.int .u64), u256 x)] (fun rs => rs = [.d .bool (.b (decide (x < 57896044618658097711785492504343953926634992332820282019728792003956564801911)))]) := by
  have hc := wcmp x 57896044618658097711785492504343953926634992332820282019728792003956564801911 hx (by omega)
  refine scall_intro (n := 7) (rl := [.tmp 2]) (us := [4]) Tryd.hT Tryd.func48 rfl rfl rfl rfl rfl (Nat.le_of_ble_eq_true rfl) ?_
  intro w0
  simp -dsimp -implicitDefEqProofs (disch := omega) only [↓gpre, ↓bldS, ↓bld, ↓reduceIte, ↓gmore, gpost, gall, keepT, den, del, upd, dels, refs, hasTy, sArgs, aRefs, rvs, nodupB, memB, app, pTm, Ty.bytes, kbytes, Ty.zeroD, Ty.size, Ty.cmp, Ty.depth, Go.SE.look, reduceCtorEq, Nat.reduceAdd, Nat.reduceSub, Nat.reduceMul, Nat.reduceEqDiff, Nat.reduceLT, Nat.reduceLeDiff, Nat.reduceMod, Nat.reduceDiv, Nat.reducePow, Nat.reduceBEq, Int.reduceToNat, Int.reduceLE, Int.reduceLT, Int.reduceEq, Int.reduceAdd, Int.reduceMul, Int.reduceSub, Int.reduceNeg, Int.reduceNe, Tryd.TS, Tryd.ev_g0, Tryd.ev1_g0, Tryd.ev_g1, Tryd.ev1_g1, rep4]
  refine sdraw Tryd.hT (by kernel_rfl) [] [0, 1, 2, 3, 4] (by kernel_rfl) (by kernel_rfl) (by kernel_rfl) ?_; simp only [pickO, List.getElem?_toArray, List.getElem?_cons_zero, List.getElem?_cons_succ]
  simp -dsimp -implicitDefEqProofs (disch := omega) only [↓gpre, ↓bldS, ↓bld, ↓reduceIte, ↓gmore, gpost, gall, keepT, den, del, upd, dels, refs, hasTy, sArgs, aRefs, rvs, nodupB, memB, app, pTm, Ty.bytes, kbytes, Ty.zeroD, Ty.size, Ty.cmp, Ty.depth, Go.SE.look, reduceCtorEq, Nat.reduceAdd, Nat.reduceSub, Nat.reduceMul, Nat.reduceEqDiff, Nat.reduceLT, Nat.reduceLeDiff, Nat.reduceMod, Nat.reduceDiv, Nat.reducePow, Nat.reduceBEq, Int.reduceToNat, Int.reduceLE, Int.reduceLT, Int.reduceEq, Int.reduceAdd, Int.reduceMul, Int.reduceSub, Int.reduceNeg, Int.reduceNe, Tryd.TS, Tryd.ev_g0, Tryd.ev1_g0, Tryd.ev_g1, Tryd.ev1_g1, rep4]
  refine SCall.mono (gorder) ?_; rintro rs rfl
  simp -dsimp -implicitDefEqProofs (disch := omega) only [↓gpre, ↓bldS, ↓bld, ↓reduceIte, ↓gmore, gpost, gall, keepT, den, del, upd, dels, refs, hasTy, sArgs, aRefs, rvs, nodupB, memB, app, pTm, Ty.bytes, kbytes, Ty.zeroD, Ty.size, Ty.cmp, Ty.depth, Go.SE.look, reduceCtorEq, Nat.reduceAdd, Nat.reduceSub, Nat.reduceMul, Nat.reduceEqDiff, Nat.reduceLT, Nat.reduceLeDiff, Nat.reduceMod, Nat.reduceDiv, Nat.reducePow, Nat.reduceBEq, Int.reduceToNat, Int.reduceLE, Int.reduceLT, Int.reduceEq, Int.reduceAdd, Int.reduceMul, Int.reduceSub, Int.reduceNeg, Int.reduceNe, Tryd.TS, Tryd.ev_g0, Tryd.ev1_g0, Tryd.ev_g1, Tryd.ev1_g1]
  refine SCall.mono (hc) ?_; rintro rs rfl
  simp -dsimp -implicitDefEqProofs (disch := omega) only [↓gpre, ↓bldS, ↓bld, ↓reduceIte, ↓gmore, gpost, gall, keepT, den, del, upd, dels, refs, hasTy, sArgs, aRefs, rvs, nodupB, memB, app, pTm, Ty.bytes, kbytes, Ty.zeroD, Ty.size, Ty.cmp, Ty.depth, Go.SE.look, reduceCtorEq, Nat.reduceAdd, Nat.reduceSub, Nat.reduceMul, Nat.reduceEqDiff, Nat.reduceLT, Nat.reduceLeDiff, Nat.reduceMod, Nat.reduceDiv, Nat.reducePow, Nat.reduceBEq, Int.reduceToNat, Int.reduceLE, Int.reduceLT, Int.reduceEq, Int.reduceAdd, Int.reduceMul, Int.reduceSub, Int.reduceNeg, Int.reduceNe, Tryd.TS, Tryd.ev_g0, Tryd.ev1_g0, Tryd.ev_g1, Tryd.ev1_g1]
  rw [cmp_lt]

set_option maxHeartbeats 4000000 in
theorem ssecret (x : Nat) (hx : x < 115792089237316195423570985008687907853269984665640564039457584007913129639936) : SCall Tryd.prog 39 [(.arr 4 (.int .u64), u256 x)] (fun rs => rs = [.d .bool (.b (secB x))]) := by
  have hc := wcmp x 57896044618658097711785492504343953926634992332820282019728792003956564801911 hx (by omega)
  refine scall_intro (n := 12) (rl := [.tmp 2]) (us := [4]) Tryd.hT Tryd.func39 rfl rfl rfl rfl rfl (Nat.le_of_ble_eq_true rfl) ?_
  intro w0
  simp -dsimp -implicitDefEqProofs (disch := omega) only [↓gpre, ↓bldS, ↓bld, ↓reduceIte, ↓gmore, gpost, gall, keepT, den, del, upd, dels, refs, hasTy, sArgs, aRefs, rvs, nodupB, memB, app, pTm, Ty.bytes, kbytes, Ty.zeroD, Ty.size, Ty.cmp, Ty.depth, Go.SE.look, reduceCtorEq, Nat.reduceAdd, Nat.reduceSub, Nat.reduceMul, Nat.reduceEqDiff, Nat.reduceLT, Nat.reduceLeDiff, Nat.reduceMod, Nat.reduceDiv, Nat.reducePow, Nat.reduceBEq, Int.reduceToNat, Int.reduceLE, Int.reduceLT, Int.reduceEq, Int.reduceAdd, Int.reduceMul, Int.reduceSub, Int.reduceNeg, Int.reduceNe, Tryd.TS, Tryd.ev_g0, Tryd.ev1_g0, Tryd.ev_g1, Tryd.ev1_g1, rep4]
  refine sdraw Tryd.hT (by kernel_rfl) [] [0, 1, 2, 3, 4, 5, 6, 7, 8, 9] (by kernel_rfl) (by kernel_rfl) (by kernel_rfl) ?_; simp only [pickO, List.getElem?_toArray, List.getElem?_cons_zero, List.getElem?_cons_succ]
  simp -dsimp -implicitDefEqProofs (disch := omega) only [↓gpre, ↓bldS, ↓bld, ↓reduceIte, ↓gmore, gpost, gall, keepT, den, del, upd, dels, refs, hasTy, sArgs, aRefs, rvs, nodupB, memB, app, pTm, Ty.bytes, kbytes, Ty.zeroD, Ty.size, Ty.cmp, Ty.depth, Go.SE.look, reduceCtorEq, Nat.reduceAdd, Nat.reduceSub, Nat.reduceMul, Nat.reduceEqDiff, Nat.reduceLT, Nat.reduceLeDiff, Nat.reduceMod, Nat.reduceDiv, Nat.reducePow, Nat.reduceBEq, Int.reduceToNat, Int.reduceLE, Int.reduceLT, Int.reduceEq, Int.reduceAdd, Int.reduceMul, Int.reduceSub, Int.reduceNeg, Int.reduceNe, Tryd.TS, Tryd.ev_g0, Tryd.ev1_g0, Tryd.ev_g1, Tryd.ev1_g1, rep4, u256_zero, u256_inj hx (show 0 < 115792089237316195423570985008687907853269984665640564039457584007913129639936 by omega)]
  refine HIf_ndec (a := ()) (b := ()) (fun h => ?_) (fun h => ?_)
  · simp -dsimp -implicitDefEqProofs (disch := omega) only [↓gpre, ↓bldS, ↓bld, ↓reduceIte, ↓gmore, gpost, gall, keepT, den, del, upd, dels, refs, hasTy, sArgs, aRefs, rvs, nodupB, memB, app, pTm, Ty.bytes, kbytes, Ty.zeroD, Ty.size, Ty.cmp, Ty.depth, Go.SE.look, reduceCtorEq, Nat.reduceAdd, Nat.reduceSub, Nat.reduceMul, Nat.reduceEqDiff, Nat.reduceLT, Nat.reduceLeDiff, Nat.reduceMod, Nat.reduceDiv, Nat.reducePow, Nat.reduceBEq, Int.reduceToNat, Int.reduceLE, Int.reduceLT, Int.reduceEq, Int.reduceAdd, Int.reduceMul, Int.reduceSub, Int.reduceNeg, Int.reduceNe, Tryd.TS, Tryd.ev_g0, Tryd.ev1_g0, Tryd.ev_g1, Tryd.ev1_g1, rep4]
    refine SCall.mono (gorder) ?_; rintro rs rfl
    simp -dsimp -implicitDefEqProofs (disch := omega) only [↓gpre, ↓bldS, ↓bld, ↓reduceIte, ↓gmore, gpost, gall, keepT, den, del, upd, dels, refs, hasTy, sArgs, aRefs, rvs, nodupB, memB, app, pTm, Ty.bytes, kbytes, Ty.zeroD, Ty.size, Ty.cmp, Ty.depth, Go.SE.look, reduceCtorEq, Nat.reduceAdd, Nat.reduceSub, Nat.reduceMul, Nat.reduceEqDiff, Nat.reduceLT, Nat.reduceLeDiff, Nat.reduceMod, Nat.reduceDiv, Nat.reducePow, Nat.reduceBEq, Int.reduceToNat, Int.reduceLE, Int.reduceLT, Int.reduceEq, Int.reduceAdd, Int.reduceMul, Int.reduceSub, Int.reduceNeg, Int.reduceNe, Tryd.TS, Tryd.ev_g0, Tryd.ev1_g0, Tryd.ev_g1, Tryd.ev1_g1]
    refine SCall.mono (hc) ?_; rintro rs rfl
    simp -dsimp -implicitDefEqProofs (disch := omega) only [↓gpre, ↓bldS, ↓bld, ↓reduceIte, ↓gmore, gpost, gall, keepT, den, del, upd, dels, refs, hasTy, sArgs, aRefs, rvs, nodupB, memB, app, pTm, Ty.bytes, kbytes, Ty.zeroD, Ty.size, Ty.cmp, Ty.depth, Go.SE.look, reduceCtorEq, Nat.reduceAdd, Nat.reduceSub, Nat.reduceMul, Nat.reduceEqDiff, Nat.reduceLT, Nat.reduceLeDiff, Nat.reduceMod, Nat.reduceDiv, Nat.reducePow, Nat.reduceBEq, Int.reduceToNat, Int.reduceLE, Int.reduceLT, Int.reduceEq, Int.reduceAdd, Int.reduceMul, Int.reduceSub, Int.reduceNeg, Int.reduceNe, Tryd.TS, Tryd.ev_g0, Tryd.ev1_g0, Tryd.ev_g1, Tryd.ev1_g1]
    rw [cmp_lt, secB, decide_eq_true h, Bool.true_and]
  · simp -dsimp -implicitDefEqProofs (disch := omega) only [↓gpre, ↓bldS, ↓bld, ↓reduceIte, ↓gmore, gpost, gall, keepT, den, del, upd, dels, refs, hasTy, sArgs, aRefs, rvs, nodupB, memB, app, pTm, Ty.bytes, kbytes, Ty.zeroD, Ty.size, Ty.cmp, Ty.depth, Go.SE.look, reduceCtorEq, Nat.reduceAdd, Nat.reduceSub, Nat.reduceMul, Nat.reduceEqDiff, Nat.reduceLT, Nat.reduceLeDiff, Nat.reduceMod, Nat.reduceDiv, Nat.reducePow, Nat.reduceBEq, Int.reduceToNat, Int.reduceLE, Int.reduceLT, Int.reduceEq, Int.reduceAdd, Int.reduceMul, Int.reduceSub, Int.reduceNeg, Int.reduceNe, Tryd.TS, Tryd.ev_g0, Tryd.ev1_g0, Tryd.ev_g1, Tryd.ev1_g1]
    rw [secB, decide_eq_false (show ¬ x ≠ 0 by omega), Bool.false_and]

set_option maxHeartbeats 4000000 in
theorem schallenge (r x : Nat) (m : List D) (hr : r < 115792089237316195423570985008687907853269984665640564039457584007913129639936) (hx : x < 115792089237316195423570985008687907853269984665640564039457584007913129639936) (hm : BY m) (hml : m.length = 32) : SCall Tryd.prog 19 [(.arr 4 (.int .u64), u256 r), (.arr 4 (.int .u64), u256 x), (.arr 32 (.int .u8), .l m)] (fun rs => rs = [.d (.arr 4 (.int .u64)) (u256 (chal r x m))]) := by
  have c1 := wbytes r hr
  have c2 := wbytes x hx
  have l1 := toB_len r
  have l2 := toB_len x
  have c3 := row3 (toB r) (toB x) m l1 l2 hml
  have hBY := ((toB_by r).append (toB_by x)).append hm
  have c4 := tagged' tagC (toB r ++ toB x ++ m) hBY (by simp only [List.length_append]; omega) (by show tagC.size ≤ _; decide)
  have c5 := gscalar (shaT (bytesD tagC) (toB r ++ toB x ++ m)) (shaT_by _ _) (shaT_len _ _)
  unfold chal
  generalize fb (shaT (bytesD tagC) (toB r ++ toB x ++ m)) % 57896044618658097711785492504343953926634992332820282019728792003956564801911 = e at *
  generalize shaT (bytesD tagC) (toB r ++ toB x ++ m) = s at *
  generalize toB r = br at *
  generalize toB x = bx at *
  refine scall_intro (n := 16) (rl := [.cell 6 45]) (us := [45]) Tryd.hT Tryd.func19 rfl rfl rfl rfl rfl (Nat.le_of_ble_eq_true rfl) ?_
  intro w0
  simp -dsimp -implicitDefEqProofs (disch := omega) only [↓gpre, ↓bldS, ↓bld, ↓reduceIte, ↓gmore, gpost, gall, keepT, den, del, upd, dels, refs, hasTy, sArgs, aRefs, rvs, nodupB, memB, app, pTm, Ty.bytes, kbytes, Ty.zeroD, Ty.size, Ty.cmp, Ty.depth, Go.SE.look, reduceCtorEq, Nat.reduceAdd, Nat.reduceSub, Nat.reduceMul, Nat.reduceEqDiff, Nat.reduceLT, Nat.reduceLeDiff, Nat.reduceMod, Nat.reduceDiv, Nat.reducePow, Nat.reduceBEq, Int.reduceToNat, Int.reduceLE, Int.reduceLT, Int.reduceEq, Int.reduceAdd, Int.reduceMul, Int.reduceSub, Int.reduceNeg, Int.reduceNe, Tryd.TS, Tryd.ev_g0, Tryd.ev1_g0, Tryd.ev_g1, Tryd.ev1_g1, rep4]
  refine sdraw Tryd.hT (by kernel_rfl) [9] [0, 2, 4, 1, 3, 5, 6, 7, 8, 9] (by kernel_rfl) (by kernel_rfl) (by kernel_rfl) ?_; simp only [pickO, List.getElem?_toArray, List.getElem?_cons_zero, List.getElem?_cons_succ]
  simp -dsimp -implicitDefEqProofs (disch := omega) only [↓gpre, ↓bldS, ↓bld, ↓reduceIte, ↓gmore, gpost, gall, keepT, den, del, upd, dels, refs, hasTy, sArgs, aRefs, rvs, nodupB, memB, app, pTm, Ty.bytes, kbytes, Ty.zeroD, Ty.size, Ty.cmp, Ty.depth, Go.SE.look, reduceCtorEq, Nat.reduceAdd, Nat.reduceSub, Nat.reduceMul, Nat.reduceEqDiff, Nat.reduceLT, Nat.reduceLeDiff, Nat.reduceMod, Nat.reduceDiv, Nat.reducePow, Nat.reduceBEq, Int.reduceToNat, Int.reduceLE, Int.reduceLT, Int.reduceEq, Int.reduceAdd, Int.reduceMul, Int.reduceSub, Int.reduceNeg, Int.reduceNe, Tryd.TS, Tryd.ev_g0, Tryd.ev1_g0, Tryd.ev_g1, Tryd.ev1_g1, rep4]
  refine SCall.mono (c1) ?_; rintro rs rfl
  simp -dsimp -implicitDefEqProofs (disch := omega) only [↓gpre, ↓bldS, ↓bld, ↓reduceIte, ↓gmore, gpost, gall, keepT, den, del, upd, dels, refs, hasTy, sArgs, aRefs, rvs, nodupB, memB, app, pTm, Ty.bytes, kbytes, Ty.zeroD, Ty.size, Ty.cmp, Ty.depth, Go.SE.look, reduceCtorEq, Nat.reduceAdd, Nat.reduceSub, Nat.reduceMul, Nat.reduceEqDiff, Nat.reduceLT, Nat.reduceLeDiff, Nat.reduceMod, Nat.reduceDiv, Nat.reducePow, Nat.reduceBEq, Int.reduceToNat, Int.reduceLE, Int.reduceLT, Int.reduceEq, Int.reduceAdd, Int.reduceMul, Int.reduceSub, Int.reduceNeg, Int.reduceNe, Tryd.TS, Tryd.ev_g0, Tryd.ev1_g0, Tryd.ev_g1, Tryd.ev1_g1]
  refine SCall.mono (c2) ?_; rintro rs rfl
  simp -dsimp -implicitDefEqProofs (disch := omega) only [↓gpre, ↓bldS, ↓bld, ↓reduceIte, ↓gmore, gpost, gall, keepT, den, del, upd, dels, refs, hasTy, sArgs, aRefs, rvs, nodupB, memB, app, pTm, Ty.bytes, kbytes, Ty.zeroD, Ty.size, Ty.cmp, Ty.depth, Go.SE.look, reduceCtorEq, Nat.reduceAdd, Nat.reduceSub, Nat.reduceMul, Nat.reduceEqDiff, Nat.reduceLT, Nat.reduceLeDiff, Nat.reduceMod, Nat.reduceDiv, Nat.reducePow, Nat.reduceBEq, Int.reduceToNat, Int.reduceLE, Int.reduceLT, Int.reduceEq, Int.reduceAdd, Int.reduceMul, Int.reduceSub, Int.reduceNeg, Int.reduceNe, Tryd.TS, Tryd.ev_g0, Tryd.ev1_g0, Tryd.ev_g1, Tryd.ev1_g1]
  refine SCall.mono (c3) ?_; rintro rs rfl
  simp -dsimp -implicitDefEqProofs (disch := omega) only [↓gpre, ↓bldS, ↓bld, ↓reduceIte, ↓gmore, gpost, gall, keepT, den, del, upd, dels, refs, hasTy, sArgs, aRefs, rvs, nodupB, memB, app, pTm, Ty.bytes, kbytes, Ty.zeroD, Ty.size, Ty.cmp, Ty.depth, Go.SE.look, reduceCtorEq, Nat.reduceAdd, Nat.reduceSub, Nat.reduceMul, Nat.reduceEqDiff, Nat.reduceLT, Nat.reduceLeDiff, Nat.reduceMod, Nat.reduceDiv, Nat.reducePow, Nat.reduceBEq, Int.reduceToNat, Int.reduceLE, Int.reduceLT, Int.reduceEq, Int.reduceAdd, Int.reduceMul, Int.reduceSub, Int.reduceNeg, Int.reduceNe, Tryd.TS, Tryd.ev_g0, Tryd.ev1_g0, Tryd.ev_g1, Tryd.ev1_g1]
  refine SCall.mono (c4) ?_; rintro rs rfl
  simp -dsimp -implicitDefEqProofs (disch := omega) only [↓gpre, ↓bldS, ↓bld, ↓reduceIte, ↓gmore, gpost, gall, keepT, den, del, upd, dels, refs, hasTy, sArgs, aRefs, rvs, nodupB, memB, app, pTm, Ty.bytes, kbytes, Ty.zeroD, Ty.size, Ty.cmp, Ty.depth, Go.SE.look, reduceCtorEq, Nat.reduceAdd, Nat.reduceSub, Nat.reduceMul, Nat.reduceEqDiff, Nat.reduceLT, Nat.reduceLeDiff, Nat.reduceMod, Nat.reduceDiv, Nat.reducePow, Nat.reduceBEq, Int.reduceToNat, Int.reduceLE, Int.reduceLT, Int.reduceEq, Int.reduceAdd, Int.reduceMul, Int.reduceSub, Int.reduceNeg, Int.reduceNe, Tryd.TS, Tryd.ev_g0, Tryd.ev1_g0, Tryd.ev_g1, Tryd.ev1_g1]
  refine SCall.mono (c5) ?_; rintro rs rfl
  simp -dsimp -implicitDefEqProofs (disch := omega) only [↓gpre, ↓bldS, ↓bld, ↓reduceIte, ↓gmore, gpost, gall, keepT, den, del, upd, dels, refs, hasTy, sArgs, aRefs, rvs, nodupB, memB, app, pTm, Ty.bytes, kbytes, Ty.zeroD, Ty.size, Ty.cmp, Ty.depth, Go.SE.look, reduceCtorEq, Nat.reduceAdd, Nat.reduceSub, Nat.reduceMul, Nat.reduceEqDiff, Nat.reduceLT, Nat.reduceLeDiff, Nat.reduceMod, Nat.reduceDiv, Nat.reducePow, Nat.reduceBEq, Int.reduceToNat, Int.reduceLE, Int.reduceLT, Int.reduceEq, Int.reduceAdd, Int.reduceMul, Int.reduceSub, Int.reduceNeg, Int.reduceNe, Tryd.TS, Tryd.ev_g0, Tryd.ev1_g0, Tryd.ev_g1, Tryd.ev1_g1]

set_option maxHeartbeats 4000000 in
theorem snonce (x : Nat) (m : List D) (hx : x < 115792089237316195423570985008687907853269984665640564039457584007913129639936) (hm : BY m) (hml : m.length = 32) : SCall Tryd.prog 41 [(.arr 4 (.int .u64), u256 x), (.arr 32 (.int .u8), .l m)] (fun rs => rs = [.d (.arr 4 (.int .u64)) (u256 (nonc x m))]) := by
  have hf : SCall Tryd.prog 46 [(.int .u64, .n 1)] (fun rs => rs = [.d (.arr 4 (.int .u64)) (u256 1)]) := fromUint 1 (by omega)
  have c2 := wbytes x hx
  have l2 := toB_len x
  have c3 := row2 (toB x) m l2 hml
  have hBY := (toB_by x).append hm
  have c4 := tagged' tagN (toB x ++ m) hBY (by simp only [List.length_append]; omega) (by show tagN.size ≤ _; decide)
  have c5 := gscalar (shaT (bytesD tagN) (toB x ++ m)) (shaT_by _ _) (shaT_len _ _)
  have hlt := nonS_lt x m
  unfold nonc
  unfold nonS at *
  generalize fb (shaT (bytesD tagN) (toB x ++ m)) % 57896044618658097711785492504343953926634992332820282019728792003956564801911 = e at *
  generalize shaT (bytesD tagN) (toB x ++ m) = s at *
  generalize toB x = bx at *
  have heM : e < 115792089237316195423570985008687907853269984665640564039457584007913129639936 := by omega
  unfold tagN at c4
  refine scall_intro (n := 18) (rl := [.cell 4 45]) (us := [45]) Tryd.hT Tryd.func41 rfl rfl rfl rfl rfl (Nat.le_of_ble_eq_true rfl) ?_
  intro w0
  simp -dsimp -implicitDefEqProofs (disch := omega) only [↓gpre, ↓bldS, ↓bld, ↓reduceIte, ↓gmore, gpost, gall, keepT, den, del, upd, dels, refs, hasTy, sArgs, aRefs, rvs, nodupB, memB, app, pTm, Ty.bytes, kbytes, Ty.zeroD, Ty.size, Ty.cmp, Ty.depth, Go.SE.look, reduceCtorEq, Nat.reduceAdd, Nat.reduceSub, Nat.reduceMul, Nat.reduceEqDiff, Nat.reduceLT, Nat.reduceLeDiff, Nat.reduceMod, Nat.reduceDiv, Nat.reducePow, Nat.reduceBEq, Int.reduceToNat, Int.reduceLE, Int.reduceLT, Int.reduceEq, Int.reduceAdd, Int.reduceMul, Int.reduceSub, Int.reduceNeg, Int.reduceNe, Tryd.TS, Tryd.ev_g0, Tryd.ev1_g0, Tryd.ev_g1, Tryd.ev1_g1, rep4]
  refine sdrawM Tryd.hT (by kernel_rfl) [8] (.alt 0 (.alt 2 (.alt 1 (.alt 3 (.alt 4 (.alt 5 (.alt 6 (.alt 7 (.alt 8 .nil .nil) .nil) (.alt 7 (.alt 6 (.alt 8 .nil .nil) .nil) .nil)) (.alt 7 (.alt 5 (.alt 6 (.alt 8 .nil .nil) .nil) .nil) .nil)) (.alt 7 (.alt 4 (.alt 5 (.alt 6 (.alt 8 .nil .nil) .nil) .nil) .nil) .nil)) (.alt 7 (.alt 3 (.alt 4 (.alt 5 (.alt 6 (.alt 8 .nil .nil) .nil) .nil) .nil) .nil) .nil)) (.alt 7 (.alt 1 (.alt 3 (.alt 4 (.alt 5 (.alt 6 (.alt 8 .nil .nil) .nil) .nil) .nil) .nil) .nil) .nil)) .nil) .nil) ⟨18, [(4, .v (.ptr 2 [])), (5, .v (.ptr 3 []))], [(2, ⟨.arr 4 (.int .u64), .d (.arr 4 (.int .u64)) (.l [.n 0, .n 0, .n 0, .n 0])⟩), (3, ⟨.arr 4 (.int .u64), .d (.arr 4 (.int .u64)) (u256 e)⟩)], 4⟩ (by kernel_rfl) (by kernel_rfl) ?_ ?_
  · simp only [tr_alt, tr_nil, tr_nil', pickO, List.getElem?_toArray, List.getElem?_cons_zero, List.getElem?_cons_succ]
    simp -dsimp -implicitDefEqProofs (disch := omega) only [↓gpre, ↓bldS, ↓bld, ↓reduceIte, ↓gmore, gpost, gall, keepT, den, del, upd, dels, refs, hasTy, sArgs, aRefs, rvs, nodupB, memB, app, pTm, Ty.bytes, kbytes, Ty.zeroD, Ty.size, Ty.cmp, Ty.depth, Go.SE.look, reduceCtorEq, Nat.reduceAdd, Nat.reduceSub, Nat.reduceMul, Nat.reduceEqDiff, Nat.reduceLT, Nat.reduceLeDiff, Nat.reduceMod, Nat.reduceDiv, Nat.reducePow, Nat.reduceBEq, Int.reduceToNat, Int.reduceLE, Int.reduceLT, Int.reduceEq, Int.reduceAdd, Int.reduceMul, Int.reduceSub, Int.reduceNeg, Int.reduceNe, Tryd.TS, Tryd.ev_g0, Tryd.ev1_g0, Tryd.ev_g1, Tryd.ev1_g1, rep4]
    repeat' (first
      | with_reducible refine And.intro ?_ ?_
      | (with_reducible refine HCall_mono (c2) ?_; rintro rs rfl
         simp -dsimp -implicitDefEqProofs (disch := omega) only [↓gpre, ↓bldS, ↓bld, ↓reduceIte, ↓gmore, gpost, gall, keepT, den, del, upd, dels, refs, hasTy, sArgs, aRefs, rvs, nodupB, memB, app, pTm, Ty.bytes, kbytes, Ty.zeroD, Ty.size, Ty.cmp, Ty.depth, Go.SE.look, reduceCtorEq, Nat.reduceAdd, Nat.reduceSub, Nat.reduceMul, Nat.reduceEqDiff, Nat.reduceLT, Nat.reduceLeDiff, Nat.reduceMod, Nat.reduceDiv, Nat.reducePow, Nat.reduceBEq, Int.reduceToNat, Int.reduceLE, Int.reduceLT, Int.reduceEq, Int.reduceAdd, Int.reduceMul, Int.reduceSub, Int.reduceNeg, Int.reduceNe, Tryd.TS, Tryd.ev_g0, Tryd.ev1_g0, Tryd.ev_g1, Tryd.ev1_g1, rep4])
      | (with_reducible refine HCall_mono (c3) ?_; rintro rs rfl
         simp -dsimp -implicitDefEqProofs (disch := omega) only [↓gpre, ↓bldS, ↓bld, ↓reduceIte, ↓gmore, gpost, gall, keepT, den, del, upd, dels, refs, hasTy, sArgs, aRefs, rvs, nodupB, memB, app, pTm, Ty.bytes, kbytes, Ty.zeroD, Ty.size, Ty.cmp, Ty.depth, Go.SE.look, reduceCtorEq, Nat.reduceAdd, Nat.reduceSub, Nat.reduceMul, Nat.reduceEqDiff, Nat.reduceLT, Nat.reduceLeDiff, Nat.reduceMod, Nat.reduceDiv, Nat.reducePow, Nat.reduceBEq, Int.reduceToNat, Int.reduceLE, Int.reduceLT, Int.reduceEq, Int.reduceAdd, Int.reduceMul, Int.reduceSub, Int.reduceNeg, Int.reduceNe, Tryd.TS, Tryd.ev_g0, Tryd.ev1_g0, Tryd.ev_g1, Tryd.ev1_g1, rep4])
      | (with_reducible refine HCall_mono (c4) ?_; rintro rs rfl
         simp -dsimp -implicitDefEqProofs (disch := omega) only [↓gpre, ↓bldS, ↓bld, ↓reduceIte, ↓gmore, gpost, gall, keepT, den, del, upd, dels, refs, hasTy, sArgs, aRefs, rvs, nodupB, memB, app, pTm, Ty.bytes, kbytes, Ty.zeroD, Ty.size, Ty.cmp, Ty.depth, Go.SE.look, reduceCtorEq, Nat.reduceAdd, Nat.reduceSub, Nat.reduceMul, Nat.reduceEqDiff, Nat.reduceLT, Nat.reduceLeDiff, Nat.reduceMod, Nat.reduceDiv, Nat.reducePow, Nat.reduceBEq, Int.reduceToNat, Int.reduceLE, Int.reduceLT, Int.reduceEq, Int.reduceAdd, Int.reduceMul, Int.reduceSub, Int.reduceNeg, Int.reduceNe, Tryd.TS, Tryd.ev_g0, Tryd.ev1_g0, Tryd.ev_g1, Tryd.ev1_g1, rep4])
      | (with_reducible refine HCall_mono (c5) ?_; rintro rs rfl
         simp -dsimp -implicitDefEqProofs (disch := omega) only [↓gpre, ↓bldS, ↓bld, ↓reduceIte, ↓gmore, gpost, gall, keepT, den, del, upd, dels, refs, hasTy, sArgs, aRefs, rvs, nodupB, memB, app, pTm, Ty.bytes, kbytes, Ty.zeroD, Ty.size, Ty.cmp, Ty.depth, Go.SE.look, reduceCtorEq, Nat.reduceAdd, Nat.reduceSub, Nat.reduceMul, Nat.reduceEqDiff, Nat.reduceLT, Nat.reduceLeDiff, Nat.reduceMod, Nat.reduceDiv, Nat.reducePow, Nat.reduceBEq, Int.reduceToNat, Int.reduceLE, Int.reduceLT, Int.reduceEq, Int.reduceAdd, Int.reduceMul, Int.reduceSub, Int.reduceNeg, Int.reduceNe, Tryd.TS, Tryd.ev_g0, Tryd.ev1_g0, Tryd.ev_g1, Tryd.ev1_g1, rep4])
      | with_reducible exact True.intro
      | (first | (refine sub_ren w0 [(0, 0), (1, 1), (2, 2), (3, 8)] rfl ?_ rfl ?_ ?_; (focus (simp [keysLt]; done)); (focus (simp [renTm, Go.SE.look, renTV, renSV]; done)); (focus (simp [renOb, Go.SE.look, renSV]; done))) | (refine sub_ren w0 [(0, 0), (1, 1), (2, 2), (3, 7)] rfl ?_ rfl ?_ ?_; (focus (simp [keysLt]; done)); (focus (simp [renTm, Go.SE.look, renTV, renSV]; done)); (focus (simp [renOb, Go.SE.look, renSV]; done))) | (refine sub_ren w0 [(0, 0), (1, 1), (2, 2), (3, 6)] rfl ?_ rfl ?_ ?_; (focus (simp [keysLt]; done)); (focus (simp [renTm, Go.SE.look, renTV, renSV]; done)); (focus (simp [renOb, Go.SE.look, renSV]; done))) | (refine sub_ren w0 [(0, 0), (1, 1), (2, 2), (3, 5)] rfl ?_ rfl ?_ ?_; (focus (simp [keysLt]; done)); (focus (simp [renTm, Go.SE.look, renTV, renSV]; done)); (focus (simp [renOb, Go.SE.look, renSV]; done))) | (refine sub_ren w0 [(0, 0), (1, 1), (2, 2), (3, 4)] rfl ?_ rfl ?_ ?_; (focus (simp [keysLt]; done)); (focus (simp [renTm, Go.SE.look, renTV, renSV]; done)); (focus (simp [renOb, Go.SE.look, renSV]; done))) | (refine sub_ren w0 [(0, 0), (1, 1), (2, 2), (3, 3)] rfl ?_ rfl ?_ ?_; (focus (simp [keysLt]; done)); (focus (simp [renTm, Go.SE.look, renTV, renSV]; done)); (focus (simp [renOb, Go.SE.look, renSV]; done)))))
  simp -dsimp -implicitDefEqProofs (disch := omega) only [↓gpre, ↓bldS, ↓bld, ↓reduceIte, ↓gmore, gpost, gall, keepT, den, del, upd, dels, refs, hasTy, sArgs, aRefs, rvs, nodupB, memB, app, pTm, Ty.bytes, kbytes, Ty.zeroD, Ty.size, Ty.cmp, Ty.depth, Go.SE.look, reduceCtorEq, Nat.reduceAdd, Nat.reduceSub, Nat.reduceMul, Nat.reduceEqDiff, Nat.reduceLT, Nat.reduceLeDiff, Nat.reduceMod, Nat.reduceDiv, Nat.reducePow, Nat.reduceBEq, Int.reduceToNat, Int.reduceLE, Int.reduceLT, Int.reduceEq, Int.reduceAdd, Int.reduceMul, Int.reduceSub, Int.reduceNeg, Int.reduceNe, Tryd.TS, Tryd.ev_g0, Tryd.ev1_g0, Tryd.ev_g1, Tryd.ev1_g1, rep4, u256_zero, u256_inj heM (show 0 < 115792089237316195423570985008687907853269984665640564039457584007913129639936 by omega)]
  refine HIf_dec (a := ()) (b := ()) (fun h => ?_) (fun h => ?_)
  · simp -dsimp -implicitDefEqProofs (disch := omega) only [↓gpre, ↓bldS, ↓bld, ↓reduceIte, ↓gmore, gpost, gall, keepT, den, del, upd, dels, refs, hasTy, sArgs, aRefs, rvs, nodupB, memB, app, pTm, Ty.bytes, kbytes, Ty.zeroD, Ty.size, Ty.cmp, Ty.depth, Go.SE.look, reduceCtorEq, Nat.reduceAdd, Nat.reduceSub, Nat.reduceMul, Nat.reduceEqDiff, Nat.reduceLT, Nat.reduceLeDiff, Nat.reduceMod, Nat.reduceDiv, Nat.reducePow, Nat.reduceBEq, Int.reduceToNat, Int.reduceLE, Int.reduceLT, Int.reduceEq, Int.reduceAdd, Int.reduceMul, Int.reduceSub, Int.reduceNeg, Int.reduceNe, Tryd.TS, Tryd.ev_g0, Tryd.ev1_g0, Tryd.ev_g1, Tryd.ev1_g1]
    refine SCall.mono (hf) ?_; rintro rs rfl
    simp -dsimp -implicitDefEqProofs (disch := omega) only [↓gpre, ↓bldS, ↓bld, ↓reduceIte, ↓gmore, gpost, gall, keepT, den, del, upd, dels, refs, hasTy, sArgs, aRefs, rvs, nodupB, memB, app, pTm, Ty.bytes, kbytes, Ty.zeroD, Ty.size, Ty.cmp, Ty.depth, Go.SE.look, reduceCtorEq, Nat.reduceAdd, Nat.reduceSub, Nat.reduceMul, Nat.reduceEqDiff, Nat.reduceLT, Nat.reduceLeDiff, Nat.reduceMod, Nat.reduceDiv, Nat.reducePow, Nat.reduceBEq, Int.reduceToNat, Int.reduceLE, Int.reduceLT, Int.reduceEq, Int.reduceAdd, Int.reduceMul, Int.reduceSub, Int.reduceNeg, Int.reduceNe, Tryd.TS, Tryd.ev_g0, Tryd.ev1_g0, Tryd.ev_g1, Tryd.ev1_g1]
    rw [if_pos h]
  · simp -dsimp -implicitDefEqProofs (disch := omega) only [↓gpre, ↓bldS, ↓bld, ↓reduceIte, ↓gmore, gpost, gall, keepT, den, del, upd, dels, refs, hasTy, sArgs, aRefs, rvs, nodupB, memB, app, pTm, Ty.bytes, kbytes, Ty.zeroD, Ty.size, Ty.cmp, Ty.depth, Go.SE.look, reduceCtorEq, Nat.reduceAdd, Nat.reduceSub, Nat.reduceMul, Nat.reduceEqDiff, Nat.reduceLT, Nat.reduceLeDiff, Nat.reduceMod, Nat.reduceDiv, Nat.reducePow, Nat.reduceBEq, Int.reduceToNat, Int.reduceLE, Int.reduceLT, Int.reduceEq, Int.reduceAdd, Int.reduceMul, Int.reduceSub, Int.reduceNeg, Int.reduceNe, Tryd.TS, Tryd.ev_g0, Tryd.ev1_g0, Tryd.ev_g1, Tryd.ev1_g1]
    rw [if_neg h]

/-- Keys that are valid. -/
def valB (q x : Nat) : Bool := decide (x ≠ 1) && mem q x

set_option maxHeartbeats 4000000 in
theorem svalid (x q : Nat) (hx : x < 115792089237316195423570985008687907853269984665640564039457584007913129639936) (hq : q = 57896044618658097711785492504343953926634992332820282019728792003956564801911) : SCall Tryd.prog 16 [(.arr 4 (.int .u64), u256 x)] (fun rs => rs = [.d .bool (.b (valB q x))]) := by
  have hf : SCall Tryd.prog 46 [(.int .u64, .n 1)] (fun rs => rs = [.d (.arr 4 (.int .u64)) (u256 1)]) := fromUint 1 (by omega)
  have hm := gmember x q hx hq
  unfold valB
  generalize mem q x = b at *
  refine scall_intro (n := 10) (rl := [.tmp 2]) (us := [4]) Tryd.hT Tryd.func16 rfl rfl rfl rfl rfl (Nat.le_of_ble_eq_true rfl) ?_
  intro w0
  simp -dsimp -implicitDefEqProofs (disch := omega) only [↓gpre, ↓bldS, ↓bld, ↓reduceIte, ↓gmore, gpost, gall, keepT, den, del, upd, dels, refs, hasTy, sArgs, aRefs, rvs, nodupB, memB, app, pTm, Ty.bytes, kbytes, Ty.zeroD, Ty.size, Ty.cmp, Ty.depth, Go.SE.look, reduceCtorEq, Nat.reduceAdd, Nat.reduceSub, Nat.reduceMul, Nat.reduceEqDiff, Nat.reduceLT, Nat.reduceLeDiff, Nat.reduceMod, Nat.reduceDiv, Nat.reducePow, Nat.reduceBEq, Int.reduceToNat, Int.reduceLE, Int.reduceLT, Int.reduceEq, Int.reduceAdd, Int.reduceMul, Int.reduceSub, Int.reduceNeg, Int.reduceNe, Tryd.TS, Tryd.ev_g0, Tryd.ev1_g0, Tryd.ev_g1, Tryd.ev1_g1, rep4]
  refine sdraw Tryd.hT (by kernel_rfl) [] [0, 1, 2, 3, 4, 5, 6, 7] (by kernel_rfl) (by kernel_rfl) (by kernel_rfl) ?_; simp only [pickO, List.getElem?_toArray, List.getElem?_cons_zero, List.getElem?_cons_succ]
  simp -dsimp -implicitDefEqProofs (disch := omega) only [↓gpre, ↓bldS, ↓bld, ↓reduceIte, ↓gmore, gpost, gall, keepT, den, del, upd, dels, refs, hasTy, sArgs, aRefs, rvs, nodupB, memB, app, pTm, Ty.bytes, kbytes, Ty.zeroD, Ty.size, Ty.cmp, Ty.depth, Go.SE.look, reduceCtorEq, Nat.reduceAdd, Nat.reduceSub, Nat.reduceMul, Nat.reduceEqDiff, Nat.reduceLT, Nat.reduceLeDiff, Nat.reduceMod, Nat.reduceDiv, Nat.reducePow, Nat.reduceBEq, Int.reduceToNat, Int.reduceLE, Int.reduceLT, Int.reduceEq, Int.reduceAdd, Int.reduceMul, Int.reduceSub, Int.reduceNeg, Int.reduceNe, Tryd.TS, Tryd.ev_g0, Tryd.ev1_g0, Tryd.ev_g1, Tryd.ev1_g1, rep4]
  refine SCall.mono (hf) ?_; rintro rs rfl
  simp -dsimp -implicitDefEqProofs (disch := omega) only [↓gpre, ↓bldS, ↓bld, ↓reduceIte, ↓gmore, gpost, gall, keepT, den, del, upd, dels, refs, hasTy, sArgs, aRefs, rvs, nodupB, memB, app, pTm, Ty.bytes, kbytes, Ty.zeroD, Ty.size, Ty.cmp, Ty.depth, Go.SE.look, reduceCtorEq, Nat.reduceAdd, Nat.reduceSub, Nat.reduceMul, Nat.reduceEqDiff, Nat.reduceLT, Nat.reduceLeDiff, Nat.reduceMod, Nat.reduceDiv, Nat.reducePow, Nat.reduceBEq, Int.reduceToNat, Int.reduceLE, Int.reduceLT, Int.reduceEq, Int.reduceAdd, Int.reduceMul, Int.reduceSub, Int.reduceNeg, Int.reduceNe, Tryd.TS, Tryd.ev_g0, Tryd.ev1_g0, Tryd.ev_g1, Tryd.ev1_g1, u256_inj hx (show 1 < 115792089237316195423570985008687907853269984665640564039457584007913129639936 by omega)]
  refine HIf_ndec (a := ()) (b := ()) (fun h => ?_) (fun h => ?_)
  · simp -dsimp -implicitDefEqProofs (disch := omega) only [↓gpre, ↓bldS, ↓bld, ↓reduceIte, ↓gmore, gpost, gall, keepT, den, del, upd, dels, refs, hasTy, sArgs, aRefs, rvs, nodupB, memB, app, pTm, Ty.bytes, kbytes, Ty.zeroD, Ty.size, Ty.cmp, Ty.depth, Go.SE.look, reduceCtorEq, Nat.reduceAdd, Nat.reduceSub, Nat.reduceMul, Nat.reduceEqDiff, Nat.reduceLT, Nat.reduceLeDiff, Nat.reduceMod, Nat.reduceDiv, Nat.reducePow, Nat.reduceBEq, Int.reduceToNat, Int.reduceLE, Int.reduceLT, Int.reduceEq, Int.reduceAdd, Int.reduceMul, Int.reduceSub, Int.reduceNeg, Int.reduceNe, Tryd.TS, Tryd.ev_g0, Tryd.ev1_g0, Tryd.ev_g1, Tryd.ev1_g1]
    refine SCall.mono (hm) ?_; rintro rs rfl
    simp -dsimp -implicitDefEqProofs (disch := omega) only [↓gpre, ↓bldS, ↓bld, ↓reduceIte, ↓gmore, gpost, gall, keepT, den, del, upd, dels, refs, hasTy, sArgs, aRefs, rvs, nodupB, memB, app, pTm, Ty.bytes, kbytes, Ty.zeroD, Ty.size, Ty.cmp, Ty.depth, Go.SE.look, reduceCtorEq, Nat.reduceAdd, Nat.reduceSub, Nat.reduceMul, Nat.reduceEqDiff, Nat.reduceLT, Nat.reduceLeDiff, Nat.reduceMod, Nat.reduceDiv, Nat.reducePow, Nat.reduceBEq, Int.reduceToNat, Int.reduceLE, Int.reduceLT, Int.reduceEq, Int.reduceAdd, Int.reduceMul, Int.reduceSub, Int.reduceNeg, Int.reduceNe, Tryd.TS, Tryd.ev_g0, Tryd.ev1_g0, Tryd.ev_g1, Tryd.ev1_g1]
    rw [decide_eq_true h, Bool.true_and]
  · simp -dsimp -implicitDefEqProofs (disch := omega) only [↓gpre, ↓bldS, ↓bld, ↓reduceIte, ↓gmore, gpost, gall, keepT, den, del, upd, dels, refs, hasTy, sArgs, aRefs, rvs, nodupB, memB, app, pTm, Ty.bytes, kbytes, Ty.zeroD, Ty.size, Ty.cmp, Ty.depth, Go.SE.look, reduceCtorEq, Nat.reduceAdd, Nat.reduceSub, Nat.reduceMul, Nat.reduceEqDiff, Nat.reduceLT, Nat.reduceLeDiff, Nat.reduceMod, Nat.reduceDiv, Nat.reducePow, Nat.reduceBEq, Int.reduceToNat, Int.reduceLE, Int.reduceLT, Int.reduceEq, Int.reduceAdd, Int.reduceMul, Int.reduceSub, Int.reduceNeg, Int.reduceNe, Tryd.TS, Tryd.ev_g0, Tryd.ev1_g0, Tryd.ev_g1, Tryd.ev1_g1]
    rw [decide_eq_false (show ¬ x ≠ 1 by omega), Bool.false_and]
end Go.Proofs
/- Signatures: signing and verifying. -/
namespace Go.Proofs
open Go.SE

theorem setF_d {t a : Ty} {x y : D} {i : Nat} (h : t.subF i = some a) : SV.setF (.d t x) i (.d a y) = some (.d t (.l (x.list.set i y))) := by
  simp only [SV.setF, h, if_true]
theorem set_sg0 {x y z : D} : SV.setF (.d (.cons (.arr 4 (.int .u64)) (.cons (.arr 4 (.int .u64)) .nil)) (.l [x, y])) 0 (.d (.arr 4 (.int .u64)) z) = some (.d (.cons (.arr 4 (.int .u64)) (.cons (.arr 4 (.int .u64)) .nil)) (.l [z, y])) := setF_d rfl
theorem set_sg1 {x y z : D} : SV.setF (.d (.cons (.arr 4 (.int .u64)) (.cons (.arr 4 (.int .u64)) .nil)) (.l [x, y])) 1 (.d (.arr 4 (.int .u64)) z) = some (.d (.cons (.arr 4 (.int .u64)) (.cons (.arr 4 (.int .u64)) .nil)) (.l [x, z])) := setF_d rfl

/-- Public keys, and the error. -/
def pubN (x : Nat) : Nat := if secB x = true then 4 ^ x % 115792089237316195423570985008687907853269984665640564039457584007913129603823 else 0
def pubE (x : Nat) : Int := if secB x = true then 0 else 60
theorem pubN_lt (x : Nat) : pubN x < 115792089237316195423570985008687907853269984665640564039457584007913129639936 := by
  unfold pubN
  split
  · exact Nat.lt_trans (p4_lt x) (by omega)
  · omega

set_option maxHeartbeats 4000000 in
theorem spublic (x : Nat) (hx : x < 115792089237316195423570985008687907853269984665640564039457584007913129639936) : SCall Tryd.prog 12 [(.arr 4 (.int .u64), u256 x)] (fun rs => rs = [.d (.arr 4 (.int .u64)) (u256 (pubN x)), .d (.int .i64) (.n (pubE x))]) := by
  have c1 := ssecret x hx
  have c2 := gpower x hx
  unfold pubN pubE
  generalize 4 ^ x % 115792089237316195423570985008687907853269984665640564039457584007913129603823 = y at *
  generalize secB x = s at *
  refine scall_intro (n := 10) (rl := [.cell 2 45, .tmp 3]) (us := [45, 34]) Tryd.hT Tryd.func12 rfl rfl rfl rfl rfl (Nat.le_of_ble_eq_true rfl) ?_
  intro w0
  simp -dsimp -implicitDefEqProofs (disch := omega) only [↓gpre, ↓bldS, ↓bld, ↓reduceIte, ↓gmore, gpost, gall, keepT, den, del, upd, dels, refs, hasTy, sArgs, aRefs, rvs, nodupB, memB, app, pTm, Ty.bytes, kbytes, Ty.zeroD, Ty.size, Ty.cmp, Ty.depth, Go.SE.look, reduceCtorEq, Nat.reduceAdd, Nat.reduceSub, Nat.reduceMul, Nat.reduceEqDiff, Nat.reduceLT, Nat.reduceLeDiff, Nat.reduceMod, Nat.reduceDiv, Nat.reducePow, Nat.reduceBEq, Int.reduceToNat, Int.reduceLE, Int.reduceLT, Int.reduceEq, Int.reduceAdd, Int.reduceMul, Int.reduceSub, Int.reduceNeg, Int.reduceNe, Tryd.TS, Tryd.ev_g0, Tryd.ev1_g0, Tryd.ev_g1, Tryd.ev1_g1, rep4]
  refine SCall.mono (c1) ?_; rintro rs rfl
  rcases s with _ | _
  · simp -dsimp -implicitDefEqProofs (disch := omega) only [↓gpre, ↓bldS, ↓bld, ↓reduceIte, ↓gmore, gpost, gall, keepT, den, del, upd, dels, refs, hasTy, sArgs, aRefs, rvs, nodupB, memB, app, pTm, Ty.bytes, kbytes, Ty.zeroD, Ty.size, Ty.cmp, Ty.depth, Go.SE.look, reduceCtorEq, Nat.reduceAdd, Nat.reduceSub, Nat.reduceMul, Nat.reduceEqDiff, Nat.reduceLT, Nat.reduceLeDiff, Nat.reduceMod, Nat.reduceDiv, Nat.reducePow, Nat.reduceBEq, Int.reduceToNat, Int.reduceLE, Int.reduceLT, Int.reduceEq, Int.reduceAdd, Int.reduceMul, Int.reduceSub, Int.reduceNeg, Int.reduceNe, Tryd.TS, Tryd.ev_g0, Tryd.ev1_g0, Tryd.ev_g1, Tryd.ev1_g1, rep4, u256_zero]
  · simp -dsimp -implicitDefEqProofs (disch := omega) only [↓gpre, ↓bldS, ↓bld, ↓reduceIte, ↓gmore, gpost, gall, keepT, den, del, upd, dels, refs, hasTy, sArgs, aRefs, rvs, nodupB, memB, app, pTm, Ty.bytes, kbytes, Ty.zeroD, Ty.size, Ty.cmp, Ty.depth, Go.SE.look, reduceCtorEq, Nat.reduceAdd, Nat.reduceSub, Nat.reduceMul, Nat.reduceEqDiff, Nat.reduceLT, Nat.reduceLeDiff, Nat.reduceMod, Nat.reduceDiv, Nat.reducePow, Nat.reduceBEq, Int.reduceToNat, Int.reduceLE, Int.reduceLT, Int.reduceEq, Int.reduceAdd, Int.reduceMul, Int.reduceSub, Int.reduceNeg, Int.reduceNe, Tryd.TS, Tryd.ev_g0, Tryd.ev1_g0, Tryd.ev_g1, Tryd.ev1_g1, rep4]
    refine SCall.mono (c2) ?_; rintro rs rfl
    simp -dsimp -implicitDefEqProofs (disch := omega) only [↓gpre, ↓bldS, ↓bld, ↓reduceIte, ↓gmore, gpost, gall, keepT, den, del, upd, dels, refs, hasTy, sArgs, aRefs, rvs, nodupB, memB, app, pTm, Ty.bytes, kbytes, Ty.zeroD, Ty.size, Ty.cmp, Ty.depth, Go.SE.look, reduceCtorEq, Nat.reduceAdd, Nat.reduceSub, Nat.reduceMul, Nat.reduceEqDiff, Nat.reduceLT, Nat.reduceLeDiff, Nat.reduceMod, Nat.reduceDiv, Nat.reducePow, Nat.reduceBEq, Int.reduceToNat, Int.reduceLE, Int.reduceLT, Int.reduceEq, Int.reduceAdd, Int.reduceMul, Int.reduceSub, Int.reduceNeg, Int.reduceNe, Tryd.TS, Tryd.ev_g0, Tryd.ev1_g0, Tryd.ev_g1, Tryd.ev1_g1]

/-- A signature: its challenge and its response, and the error. -/
def sigC (x : Nat) (m : List D) : Nat := chal (4 ^ nonc x m % 115792089237316195423570985008687907853269984665640564039457584007913129603823) (pubN x) m
def sigR (x : Nat) (m : List D) : Nat := (nonc x m + sigC x m * x % 57896044618658097711785492504343953926634992332820282019728792003956564801911) % 57896044618658097711785492504343953926634992332820282019728792003956564801911

set_option maxHeartbeats 4000000 in
theorem ssign (x : Nat) (m : List D) (hx : x < 115792089237316195423570985008687907853269984665640564039457584007913129639936) (hm : BY m) (hml : m.length = 32) : SCall Tryd.prog 13 [(.arr 4 (.int .u64), u256 x), (.arr 32 (.int .u8), .l m)]
    (fun rs => rs = [.d (.cons (.arr 4 (.int .u64)) (.cons (.arr 4 (.int .u64)) .nil)) (if secB x = true then .l [u256 (sigC x m), u256 (sigR x m)] else .l [u256 0, u256 0]), .d (.int .i64) (.n (pubE x))]) := by
  have c1 := spublic x hx
  have hp := pubN_lt x
  have c2 := snonce x m hx hm hml
  have hn : nonc x m < 115792089237316195423570985008687907853269984665640564039457584007913129639936 := Nat.lt_trans (nonc_lt x m) (by omega)
  have c3 := gpower (nonc x m) hn
  have c4 := schallenge (4 ^ nonc x m % 115792089237316195423570985008687907853269984665640564039457584007913129603823) (pubN x) m (Nat.lt_trans (p4_lt _) (by omega)) hp hm hml
  have hc : sigC x m < 115792089237316195423570985008687907853269984665640564039457584007913129639936 := Nat.lt_trans (chal_lt _ _ _) (by omega)
  rw [show chal (4 ^ nonc x m % 115792089237316195423570985008687907853269984665640564039457584007913129603823) (pubN x) m = sigC x m from rfl] at c4
  have c5 := gmulScalar (sigC x m) x hc hx
  have c6 := gaddScalar (nonc x m) (sigC x m * x % 57896044618658097711785492504343953926634992332820282019728792003956564801911) hn (Nat.lt_trans (Nat.mod_lt _ (by omega)) (by omega))
  rw [show (nonc x m + sigC x m * x % 57896044618658097711785492504343953926634992332820282019728792003956564801911) % 57896044618658097711785492504343953926634992332820282019728792003956564801911 = sigR x m from rfl] at c6
  generalize 4 ^ nonc x m % 115792089237316195423570985008687907853269984665640564039457584007913129603823 = r at *
  generalize sigC x m * x % 57896044618658097711785492504343953926634992332820282019728792003956564801911 = v at *
  generalize sigR x m = z at *
  generalize sigC x m = c at *
  generalize nonc x m = k at *
  unfold pubE at *
  generalize pubN x = y at *
  generalize secB x = s at *
  refine scall_intro (n := 34) (rl := [.cell 4 50, .tmp 5]) (us := [50, 34]) Tryd.hT Tryd.func13 rfl rfl rfl rfl rfl (Nat.le_of_ble_eq_true rfl) ?_
  intro w0
  simp -dsimp -implicitDefEqProofs (disch := omega) only [↓gpre, ↓bldS, ↓bld, ↓reduceIte, ↓gmore, gpost, gall, keepT, den, del, upd, dels, refs, hasTy, sArgs, aRefs, rvs, nodupB, memB, app, pTm, Ty.bytes, kbytes, Ty.zeroD, Ty.size, Ty.cmp, Ty.depth, Go.SE.look, reduceCtorEq, Nat.reduceAdd, Nat.reduceSub, Nat.reduceMul, Nat.reduceEqDiff, Nat.reduceLT, Nat.reduceLeDiff, Nat.reduceMod, Nat.reduceDiv, Nat.reducePow, Nat.reduceBEq, Int.reduceToNat, Int.reduceLE, Int.reduceLT, Int.reduceEq, Int.reduceAdd, Int.reduceMul, Int.reduceSub, Int.reduceNeg, Int.reduceNe, Tryd.TS, Tryd.ev_g0, Tryd.ev1_g0, Tryd.ev_g1, Tryd.ev1_g1, rep4]
  refine SCall.mono (c1) ?_; rintro rs rfl
  rcases s with _ | _
  · simp -dsimp -implicitDefEqProofs (disch := omega) only [↓gpre, ↓bldS, ↓bld, ↓reduceIte, ↓gmore, gpost, gall, keepT, den, del, upd, dels, refs, hasTy, sArgs, aRefs, rvs, nodupB, memB, app, pTm, Ty.bytes, kbytes, Ty.zeroD, Ty.size, Ty.cmp, Ty.depth, Go.SE.look, reduceCtorEq, Nat.reduceAdd, Nat.reduceSub, Nat.reduceMul, Nat.reduceEqDiff, Nat.reduceLT, Nat.reduceLeDiff, Nat.reduceMod, Nat.reduceDiv, Nat.reducePow, Nat.reduceBEq, Int.reduceToNat, Int.reduceLE, Int.reduceLT, Int.reduceEq, Int.reduceAdd, Int.reduceMul, Int.reduceSub, Int.reduceNeg, Int.reduceNe, Tryd.TS, Tryd.ev_g0, Tryd.ev1_g0, Tryd.ev_g1, Tryd.ev1_g1, rep4, u256_zero]
  · simp -dsimp -implicitDefEqProofs (disch := omega) only [↓gpre, ↓bldS, ↓bld, ↓reduceIte, ↓gmore, gpost, gall, keepT, den, del, upd, dels, refs, hasTy, sArgs, aRefs, rvs, nodupB, memB, app, pTm, Ty.bytes, kbytes, Ty.zeroD, Ty.size, Ty.cmp, Ty.depth, Go.SE.look, reduceCtorEq, Nat.reduceAdd, Nat.reduceSub, Nat.reduceMul, Nat.reduceEqDiff, Nat.reduceLT, Nat.reduceLeDiff, Nat.reduceMod, Nat.reduceDiv, Nat.reducePow, Nat.reduceBEq, Int.reduceToNat, Int.reduceLE, Int.reduceLT, Int.reduceEq, Int.reduceAdd, Int.reduceMul, Int.reduceSub, Int.reduceNeg, Int.reduceNe, Tryd.TS, Tryd.ev_g0, Tryd.ev1_g0, Tryd.ev_g1, Tryd.ev1_g1, rep4]
    refine SCall.mono (c2) ?_; rintro rs rfl
    simp -dsimp -implicitDefEqProofs (disch := omega) only [↓gpre, ↓bldS, ↓bld, ↓reduceIte, ↓gmore, gpost, gall, keepT, den, del, upd, dels, refs, hasTy, sArgs, aRefs, rvs, nodupB, memB, app, pTm, Ty.bytes, kbytes, Ty.zeroD, Ty.size, Ty.cmp, Ty.depth, Go.SE.look, reduceCtorEq, Nat.reduceAdd, Nat.reduceSub, Nat.reduceMul, Nat.reduceEqDiff, Nat.reduceLT, Nat.reduceLeDiff, Nat.reduceMod, Nat.reduceDiv, Nat.reducePow, Nat.reduceBEq, Int.reduceToNat, Int.reduceLE, Int.reduceLT, Int.reduceEq, Int.reduceAdd, Int.reduceMul, Int.reduceSub, Int.reduceNeg, Int.reduceNe, Tryd.TS, Tryd.ev_g0, Tryd.ev1_g0, Tryd.ev_g1, Tryd.ev1_g1, rep4]
    refine sdrawM Tryd.hT (by kernel_rfl) [6] (.alt 0 (.alt 2 (.alt 3 (.alt 1 (.alt 4 (.alt 5 (.alt 6 .nil .nil) .nil) (.alt 5 (.alt 4 (.alt 6 .nil .nil) .nil) .nil)) (.alt 5 (.alt 1 (.alt 4 (.alt 6 .nil .nil) .nil) .nil) .nil)) .nil) .nil) .nil) ⟨34, [(2, .v (.ptr 0 [])), (4, .v (.ptr 2 [])), (8, .v (.ptr 7 [])), (9, .v (.ptr 8 []))], [(0, ⟨.arr 4 (.int .u64), .d (.arr 4 (.int .u64)) (u256 x)⟩), (2, ⟨.cons (.arr 4 (.int .u64)) (.cons (.arr 4 (.int .u64)) .nil), .d (.cons (.arr 4 (.int .u64)) (.cons (.arr 4 (.int .u64)) .nil)) (.l [.l [.n 0, .n 0, .n 0, .n 0], .l [.n 0, .n 0, .n 0, .n 0]])⟩), (7, ⟨.arr 4 (.int .u64), .d (.arr 4 (.int .u64)) (u256 k)⟩), (8, ⟨.arr 4 (.int .u64), .d (.arr 4 (.int .u64)) (u256 c)⟩)], 9⟩ (by kernel_rfl) (by kernel_rfl) ?_ ?_
    · simp only [tr_alt, tr_nil, tr_nil', pickO, List.getElem?_toArray, List.getElem?_cons_zero, List.getElem?_cons_succ]
      simp -dsimp -implicitDefEqProofs (disch := omega) only [↓gpre, ↓bldS, ↓bld, ↓reduceIte, ↓gmore, gpost, gall, keepT, den, del, upd, dels, refs, hasTy, sArgs, aRefs, rvs, nodupB, memB, app, pTm, Ty.bytes, kbytes, Ty.zeroD, Ty.size, Ty.cmp, Ty.depth, Go.SE.look, reduceCtorEq, Nat.reduceAdd, Nat.reduceSub, Nat.reduceMul, Nat.reduceEqDiff, Nat.reduceLT, Nat.reduceLeDiff, Nat.reduceMod, Nat.reduceDiv, Nat.reducePow, Nat.reduceBEq, Int.reduceToNat, Int.reduceLE, Int.reduceLT, Int.reduceEq, Int.reduceAdd, Int.reduceMul, Int.reduceSub, Int.reduceNeg, Int.reduceNe, Tryd.TS, Tryd.ev_g0, Tryd.ev1_g0, Tryd.ev_g1, Tryd.ev1_g1, rep4]
      repeat' (first
        | with_reducible refine And.intro ?_ ?_
        | (with_reducible refine HCall_mono (c3) ?_; rintro rs rfl
           simp -dsimp -implicitDefEqProofs (disch := omega) only [↓gpre, ↓bldS, ↓bld, ↓reduceIte, ↓gmore, gpost, gall, keepT, den, del, upd, dels, refs, hasTy, sArgs, aRefs, rvs, nodupB, memB, app, pTm, Ty.bytes, kbytes, Ty.zeroD, Ty.size, Ty.cmp, Ty.depth, Go.SE.look, reduceCtorEq, Nat.reduceAdd, Nat.reduceSub, Nat.reduceMul, Nat.reduceEqDiff, Nat.reduceLT, Nat.reduceLeDiff, Nat.reduceMod, Nat.reduceDiv, Nat.reducePow, Nat.reduceBEq, Int.reduceToNat, Int.reduceLE, Int.reduceLT, Int.reduceEq, Int.reduceAdd, Int.reduceMul, Int.reduceSub, Int.reduceNeg, Int.reduceNe, Tryd.TS, Tryd.ev_g0, Tryd.ev1_g0, Tryd.ev_g1, Tryd.ev1_g1, rep4])
        | (with_reducible refine HCall_mono (c4) ?_; rintro rs rfl
           simp -dsimp -implicitDefEqProofs (disch := omega) only [↓gpre, ↓bldS, ↓bld, ↓reduceIte, ↓gmore, gpost, gall, keepT, den, del, upd, dels, refs, hasTy, sArgs, aRefs, rvs, nodupB, memB, app, pTm, Ty.bytes, kbytes, Ty.zeroD, Ty.size, Ty.cmp, Ty.depth, Go.SE.look, reduceCtorEq, Nat.reduceAdd, Nat.reduceSub, Nat.reduceMul, Nat.reduceEqDiff, Nat.reduceLT, Nat.reduceLeDiff, Nat.reduceMod, Nat.reduceDiv, Nat.reducePow, Nat.reduceBEq, Int.reduceToNat, Int.reduceLE, Int.reduceLT, Int.reduceEq, Int.reduceAdd, Int.reduceMul, Int.reduceSub, Int.reduceNeg, Int.reduceNe, Tryd.TS, Tryd.ev_g0, Tryd.ev1_g0, Tryd.ev_g1, Tryd.ev1_g1, rep4])
        | with_reducible exact True.intro
        | (first | (refine sub_ren w0 [(0, 0), (1, 1), (2, 2), (3, 3), (4, 4), (5, 5), (6, 6), (7, 7), (8, 10)] rfl ?_ rfl ?_ ?_; (focus (simp [keysLt]; done)); (focus (simp [renTm, Go.SE.look, renTV, renSV]; done)); (focus (simp [renOb, Go.SE.look, renSV]; done))) | (refine sub_ren w0 [(0, 0), (1, 1), (2, 2), (3, 3), (4, 4), (5, 5), (6, 6), (7, 7), (8, 9)] rfl ?_ rfl ?_ ?_; (focus (simp [keysLt]; done)); (focus (simp [renTm, Go.SE.look, renTV, renSV]; done)); (focus (simp [renOb, Go.SE.look, renSV]; done))) | (refine sub_ren w0 [(0, 0), (1, 1), (2, 2), (3, 3), (4, 4), (5, 5), (6, 6), (7, 7), (8, 8)] rfl ?_ rfl ?_ ?_; (focus (simp [keysLt]; done)); (focus (simp [renTm, Go.SE.look, renTV, renSV]; done)); (focus (simp [renOb, Go.SE.look, renSV]; done)))))
    simp -dsimp -implicitDefEqProofs (disch := omega) only [↓gpre, ↓bldS, ↓bld, ↓reduceIte, ↓gmore, gpost, gall, keepT, den, del, upd, dels, refs, hasTy, sArgs, aRefs, rvs, nodupB, memB, app, pTm, Ty.bytes, kbytes, Ty.zeroD, Ty.size, Ty.cmp, Ty.depth, Go.SE.look, reduceCtorEq, Nat.reduceAdd, Nat.reduceSub, Nat.reduceMul, Nat.reduceEqDiff, Nat.reduceLT, Nat.reduceLeDiff, Nat.reduceMod, Nat.reduceDiv, Nat.reducePow, Nat.reduceBEq, Int.reduceToNat, Int.reduceLE, Int.reduceLT, Int.reduceEq, Int.reduceAdd, Int.reduceMul, Int.reduceSub, Int.reduceNeg, Int.reduceNe, Tryd.TS, Tryd.ev_g0, Tryd.ev1_g0, Tryd.ev_g1, Tryd.ev1_g1, rep4]
    refine sdraw Tryd.hT (by kernel_rfl) [7] [0, 1, 2, 3, 4, 5, 6, 7, 8] (by kernel_rfl) (by kernel_rfl) (by kernel_rfl) ?_; simp only [pickO, List.getElem?_toArray, List.getElem?_cons_zero, List.getElem?_cons_succ]
    simp -dsimp -implicitDefEqProofs (disch := omega) only [↓gpre, ↓bldS, ↓bld, ↓reduceIte, ↓gmore, gpost, gall, keepT, den, del, upd, dels, refs, hasTy, sArgs, aRefs, rvs, nodupB, memB, app, pTm, Ty.bytes, kbytes, Ty.zeroD, Ty.size, Ty.cmp, Ty.depth, Go.SE.look, reduceCtorEq, Nat.reduceAdd, Nat.reduceSub, Nat.reduceMul, Nat.reduceEqDiff, Nat.reduceLT, Nat.reduceLeDiff, Nat.reduceMod, Nat.reduceDiv, Nat.reducePow, Nat.reduceBEq, Int.reduceToNat, Int.reduceLE, Int.reduceLT, Int.reduceEq, Int.reduceAdd, Int.reduceMul, Int.reduceSub, Int.reduceNeg, Int.reduceNe, Tryd.TS, Tryd.ev_g0, Tryd.ev1_g0, Tryd.ev_g1, Tryd.ev1_g1, rep4]
    refine SCall.mono (c5) ?_; rintro rs rfl
    simp -dsimp -implicitDefEqProofs (disch := omega) only [↓gpre, ↓bldS, ↓bld, ↓reduceIte, ↓gmore, gpost, gall, keepT, den, del, upd, dels, refs, hasTy, sArgs, aRefs, rvs, nodupB, memB, app, pTm, Ty.bytes, kbytes, Ty.zeroD, Ty.size, Ty.cmp, Ty.depth, Go.SE.look, reduceCtorEq, Nat.reduceAdd, Nat.reduceSub, Nat.reduceMul, Nat.reduceEqDiff, Nat.reduceLT, Nat.reduceLeDiff, Nat.reduceMod, Nat.reduceDiv, Nat.reducePow, Nat.reduceBEq, Int.reduceToNat, Int.reduceLE, Int.reduceLT, Int.reduceEq, Int.reduceAdd, Int.reduceMul, Int.reduceSub, Int.reduceNeg, Int.reduceNe, Tryd.TS, Tryd.ev_g0, Tryd.ev1_g0, Tryd.ev_g1, Tryd.ev1_g1]
    refine SCall.mono (c6) ?_; rintro rs rfl
    simp -dsimp -implicitDefEqProofs (disch := omega) only [↓gpre, ↓bldS, ↓bld, ↓reduceIte, ↓gmore, gpost, gall, keepT, den, del, upd, dels, refs, hasTy, sArgs, aRefs, rvs, nodupB, memB, app, pTm, Ty.bytes, kbytes, Ty.zeroD, Ty.size, Ty.cmp, Ty.depth, Go.SE.look, reduceCtorEq, Nat.reduceAdd, Nat.reduceSub, Nat.reduceMul, Nat.reduceEqDiff, Nat.reduceLT, Nat.reduceLeDiff, Nat.reduceMod, Nat.reduceDiv, Nat.reducePow, Nat.reduceBEq, Int.reduceToNat, Int.reduceLE, Int.reduceLT, Int.reduceEq, Int.reduceAdd, Int.reduceMul, Int.reduceSub, Int.reduceNeg, Int.reduceNe, Tryd.TS, Tryd.ev_g0, Tryd.ev1_g0, Tryd.ev_g1, Tryd.ev1_g1, set_sg0, set_sg1]

/-- Whether a signature is verified. -/
def verB (q x : Nat) (m : List D) (c z : Nat) : Bool := valB q x && (decide (c < 57896044618658097711785492504343953926634992332820282019728792003956564801911) && (decide (z < 57896044618658097711785492504343953926634992332820282019728792003956564801911) && decide (c = chal (4 ^ z % 115792089237316195423570985008687907853269984665640564039457584007913129603823 * (x ^ ngq c % 115792089237316195423570985008687907853269984665640564039457584007913129603823) % 115792089237316195423570985008687907853269984665640564039457584007913129603823) x m)))

set_option maxHeartbeats 4000000 in
theorem sverify (x q c z : Nat) (m : List D) (hx : x < 115792089237316195423570985008687907853269984665640564039457584007913129639936) (hc : c < 115792089237316195423570985008687907853269984665640564039457584007913129639936) (hz : z < 115792089237316195423570985008687907853269984665640564039457584007913129639936) (hm : BY m) (hml : m.length = 32) (hq : q = 57896044618658097711785492504343953926634992332820282019728792003956564801911) : SCall Tryd.prog 17 [(.arr 4 (.int .u64), u256 x), (.arr 32 (.int .u8), .l m), (.cons (.arr 4 (.int .u64)) (.cons (.arr 4 (.int .u64)) .nil), .l [u256 c, u256 z])]
    (fun rs => rs = [.d .bool (.b (verB q x m c z))]) := by
  have c1 := svalid x q hx hq
  have c2 := sscalar c hc
  have c3 := sscalar z hz
  have c4 := gpower z hz
  have c5 := gnegScalar c hc
  have hn : ngq c < 115792089237316195423570985008687907853269984665640564039457584007913129639936 := Nat.lt_trans (ngq_lt c) (by omega)
  have c6 := gexp x (ngq c) hx hn
  have l1 : 4 ^ z % 115792089237316195423570985008687907853269984665640564039457584007913129603823 < 115792089237316195423570985008687907853269984665640564039457584007913129639936 := Nat.lt_trans (p4_lt z) (by omega)
  have l2 : x ^ ngq c % 115792089237316195423570985008687907853269984665640564039457584007913129603823 < 115792089237316195423570985008687907853269984665640564039457584007913129639936 := Nat.lt_trans (Nat.mod_lt _ (by omega)) (show 115792089237316195423570985008687907853269984665640564039457584007913129603823 < 115792089237316195423570985008687907853269984665640564039457584007913129639936 by omega)
  have c7 := gmul (4 ^ z % 115792089237316195423570985008687907853269984665640564039457584007913129603823) (x ^ ngq c % 115792089237316195423570985008687907853269984665640564039457584007913129603823) l1 l2
  have l3 : 4 ^ z % 115792089237316195423570985008687907853269984665640564039457584007913129603823 * (x ^ ngq c % 115792089237316195423570985008687907853269984665640564039457584007913129603823) % 115792089237316195423570985008687907853269984665640564039457584007913129603823 < 115792089237316195423570985008687907853269984665640564039457584007913129639936 := Nat.lt_trans (Nat.mod_lt _ (by omega)) (show 115792089237316195423570985008687907853269984665640564039457584007913129603823 < 115792089237316195423570985008687907853269984665640564039457584007913129639936 by omega)
  have c8 := schallenge (4 ^ z % 115792089237316195423570985008687907853269984665640564039457584007913129603823 * (x ^ ngq c % 115792089237316195423570985008687907853269984665640564039457584007913129603823) % 115792089237316195423570985008687907853269984665640564039457584007913129603823) x m l3 hx hm hml
  have l4 : chal (4 ^ z % 115792089237316195423570985008687907853269984665640564039457584007913129603823 * (x ^ ngq c % 115792089237316195423570985008687907853269984665640564039457584007913129603823) % 115792089237316195423570985008687907853269984665640564039457584007913129603823) x m < 115792089237316195423570985008687907853269984665640564039457584007913129639936 := Nat.lt_trans (chal_lt _ _ _) (by omega)
  unfold verB
  generalize chal (4 ^ z % 115792089237316195423570985008687907853269984665640564039457584007913129603823 * (x ^ ngq c % 115792089237316195423570985008687907853269984665640564039457584007913129603823) % 115792089237316195423570985008687907853269984665640564039457584007913129603823) x m = e at *
  generalize 4 ^ z % 115792089237316195423570985008687907853269984665640564039457584007913129603823 * (x ^ ngq c % 115792089237316195423570985008687907853269984665640564039457584007913129603823) % 115792089237316195423570985008687907853269984665640564039457584007913129603823 = w at *
  generalize x ^ ngq c % 115792089237316195423570985008687907853269984665640564039457584007913129603823 = u at *
  generalize 4 ^ z % 115792089237316195423570985008687907853269984665640564039457584007913129603823 = t at *
  generalize ngq c = n at *
  generalize valB q x = b1 at *
  generalize decide (c < 57896044618658097711785492504343953926634992332820282019728792003956564801911) = b2 at *
  generalize decide (z < 57896044618658097711785492504343953926634992332820282019728792003956564801911) = b3 at *
  refine scall_intro (n := 39) (rl := [.tmp 6]) (us := [4]) Tryd.hT Tryd.func17 rfl rfl rfl rfl rfl (Nat.le_of_ble_eq_true rfl) ?_
  intro w0
  simp -dsimp -implicitDefEqProofs (disch := omega) only [↓gpre, ↓bldS, ↓bld, ↓reduceIte, ↓gmore, gpost, gall, keepT, den, del, upd, dels, refs, hasTy, sArgs, aRefs, rvs, nodupB, memB, app, pTm, Ty.bytes, kbytes, Ty.zeroD, Ty.size, Ty.cmp, Ty.depth, Go.SE.look, reduceCtorEq, Nat.reduceAdd, Nat.reduceSub, Nat.reduceMul, Nat.reduceEqDiff, Nat.reduceLT, Nat.reduceLeDiff, Nat.reduceMod, Nat.reduceDiv, Nat.reducePow, Nat.reduceBEq, Int.reduceToNat, Int.reduceLE, Int.reduceLT, Int.reduceEq, Int.reduceAdd, Int.reduceMul, Int.reduceSub, Int.reduceNeg, Int.reduceNe, Tryd.TS, Tryd.ev_g0, Tryd.ev1_g0, Tryd.ev_g1, Tryd.ev1_g1, rep4]
  refine SCall.mono (c1) ?_; rintro rs rfl
  rcases b1 with _ | _
  · simp -dsimp -implicitDefEqProofs (disch := omega) only [↓gpre, ↓bldS, ↓bld, ↓reduceIte, ↓gmore, gpost, gall, keepT, den, del, upd, dels, refs, hasTy, sArgs, aRefs, rvs, nodupB, memB, app, pTm, Ty.bytes, kbytes, Ty.zeroD, Ty.size, Ty.cmp, Ty.depth, Go.SE.look, reduceCtorEq, Nat.reduceAdd, Nat.reduceSub, Nat.reduceMul, Nat.reduceEqDiff, Nat.reduceLT, Nat.reduceLeDiff, Nat.reduceMod, Nat.reduceDiv, Nat.reducePow, Nat.reduceBEq, Int.reduceToNat, Int.reduceLE, Int.reduceLT, Int.reduceEq, Int.reduceAdd, Int.reduceMul, Int.reduceSub, Int.reduceNeg, Int.reduceNe, Tryd.TS, Tryd.ev_g0, Tryd.ev1_g0, Tryd.ev_g1, Tryd.ev1_g1]
  · simp -dsimp -implicitDefEqProofs (disch := omega) only [↓gpre, ↓bldS, ↓bld, ↓reduceIte, ↓gmore, gpost, gall, keepT, den, del, upd, dels, refs, hasTy, sArgs, aRefs, rvs, nodupB, memB, app, pTm, Ty.bytes, kbytes, Ty.zeroD, Ty.size, Ty.cmp, Ty.depth, Go.SE.look, reduceCtorEq, Nat.reduceAdd, Nat.reduceSub, Nat.reduceMul, Nat.reduceEqDiff, Nat.reduceLT, Nat.reduceLeDiff, Nat.reduceMod, Nat.reduceDiv, Nat.reducePow, Nat.reduceBEq, Int.reduceToNat, Int.reduceLE, Int.reduceLT, Int.reduceEq, Int.reduceAdd, Int.reduceMul, Int.reduceSub, Int.reduceNeg, Int.reduceNe, Tryd.TS, Tryd.ev_g0, Tryd.ev1_g0, Tryd.ev_g1, Tryd.ev1_g1]
    refine SCall.mono (c2) ?_; rintro rs rfl
    rcases b2 with _ | _
    · simp -dsimp -implicitDefEqProofs (disch := omega) only [↓gpre, ↓bldS, ↓bld, ↓reduceIte, ↓gmore, gpost, gall, keepT, den, del, upd, dels, refs, hasTy, sArgs, aRefs, rvs, nodupB, memB, app, pTm, Ty.bytes, kbytes, Ty.zeroD, Ty.size, Ty.cmp, Ty.depth, Go.SE.look, reduceCtorEq, Nat.reduceAdd, Nat.reduceSub, Nat.reduceMul, Nat.reduceEqDiff, Nat.reduceLT, Nat.reduceLeDiff, Nat.reduceMod, Nat.reduceDiv, Nat.reducePow, Nat.reduceBEq, Int.reduceToNat, Int.reduceLE, Int.reduceLT, Int.reduceEq, Int.reduceAdd, Int.reduceMul, Int.reduceSub, Int.reduceNeg, Int.reduceNe, Tryd.TS, Tryd.ev_g0, Tryd.ev1_g0, Tryd.ev_g1, Tryd.ev1_g1]
    · simp -dsimp -implicitDefEqProofs (disch := omega) only [↓gpre, ↓bldS, ↓bld, ↓reduceIte, ↓gmore, gpost, gall, keepT, den, del, upd, dels, refs, hasTy, sArgs, aRefs, rvs, nodupB, memB, app, pTm, Ty.bytes, kbytes, Ty.zeroD, Ty.size, Ty.cmp, Ty.depth, Go.SE.look, reduceCtorEq, Nat.reduceAdd, Nat.reduceSub, Nat.reduceMul, Nat.reduceEqDiff, Nat.reduceLT, Nat.reduceLeDiff, Nat.reduceMod, Nat.reduceDiv, Nat.reducePow, Nat.reduceBEq, Int.reduceToNat, Int.reduceLE, Int.reduceLT, Int.reduceEq, Int.reduceAdd, Int.reduceMul, Int.reduceSub, Int.reduceNeg, Int.reduceNe, Tryd.TS, Tryd.ev_g0, Tryd.ev1_g0, Tryd.ev_g1, Tryd.ev1_g1]
      refine SCall.mono (c3) ?_; rintro rs rfl
      rcases b3 with _ | _
      · simp -dsimp -implicitDefEqProofs (disch := omega) only [↓gpre, ↓bldS, ↓bld, ↓reduceIte, ↓gmore, gpost, gall, keepT, den, del, upd, dels, refs, hasTy, sArgs, aRefs, rvs, nodupB, memB, app, pTm, Ty.bytes, kbytes, Ty.zeroD, Ty.size, Ty.cmp, Ty.depth, Go.SE.look, reduceCtorEq, Nat.reduceAdd, Nat.reduceSub, Nat.reduceMul, Nat.reduceEqDiff, Nat.reduceLT, Nat.reduceLeDiff, Nat.reduceMod, Nat.reduceDiv, Nat.reducePow, Nat.reduceBEq, Int.reduceToNat, Int.reduceLE, Int.reduceLT, Int.reduceEq, Int.reduceAdd, Int.reduceMul, Int.reduceSub, Int.reduceNeg, Int.reduceNe, Tryd.TS, Tryd.ev_g0, Tryd.ev1_g0, Tryd.ev_g1, Tryd.ev1_g1]
      · simp -dsimp -implicitDefEqProofs (disch := omega) only [↓gpre, ↓bldS, ↓bld, ↓reduceIte, ↓gmore, gpost, gall, keepT, den, del, upd, dels, refs, hasTy, sArgs, aRefs, rvs, nodupB, memB, app, pTm, Ty.bytes, kbytes, Ty.zeroD, Ty.size, Ty.cmp, Ty.depth, Go.SE.look, reduceCtorEq, Nat.reduceAdd, Nat.reduceSub, Nat.reduceMul, Nat.reduceEqDiff, Nat.reduceLT, Nat.reduceLeDiff, Nat.reduceMod, Nat.reduceDiv, Nat.reducePow, Nat.reduceBEq, Int.reduceToNat, Int.reduceLE, Int.reduceLT, Int.reduceEq, Int.reduceAdd, Int.reduceMul, Int.reduceSub, Int.reduceNeg, Int.reduceNe, Tryd.TS, Tryd.ev_g0, Tryd.ev1_g0, Tryd.ev_g1, Tryd.ev1_g1, rep4]
        refine sdrawM Tryd.hT (by kernel_rfl) [10] (.alt 0 (.alt 1 (.alt 3 (.alt 4 (.alt 5 (.alt 2 (.alt 6 (.alt 7 (.alt 8 (.alt 9 (.alt 10 .nil .nil) .nil) (.alt 9 (.alt 8 (.alt 10 .nil .nil) .nil) .nil)) (.alt 9 (.alt 7 (.alt 8 (.alt 10 .nil .nil) .nil) .nil) .nil)) (.alt 9 (.alt 6 (.alt 7 (.alt 8 (.alt 10 .nil .nil) .nil) .nil) .nil) .nil)) (.alt 9 (.alt 2 (.alt 6 (.alt 7 (.alt 8 (.alt 10 .nil .nil) .nil) .nil) .nil) .nil) .nil)) .nil) .nil) .nil) .nil) .nil) ⟨39, [(3, .v (.ptr 0 [])), (4, .v (.ptr 1 [])), (5, .v (.ptr 2 [])), (6, .v (.d .bool (.b false))), (7, .v (.ptr 6 []))], [(0, ⟨.arr 4 (.int .u64), .d (.arr 4 (.int .u64)) (u256 x)⟩), (1, ⟨.arr 32 (.int .u8), .d (.arr 32 (.int .u8)) (.l m)⟩), (2, ⟨.cons (.arr 4 (.int .u64)) (.cons (.arr 4 (.int .u64)) .nil), .d (.cons (.arr 4 (.int .u64)) (.cons (.arr 4 (.int .u64)) .nil)) (.l [u256 c, u256 z])⟩), (6, ⟨.arr 4 (.int .u64), .d (.arr 4 (.int .u64)) (u256 w)⟩)], 7⟩ (by kernel_rfl) (by kernel_rfl) ?_ ?_
        · simp only [tr_alt, tr_nil, tr_nil', pickO, List.getElem?_toArray, List.getElem?_cons_zero, List.getElem?_cons_succ]
          simp -dsimp -implicitDefEqProofs (disch := omega) only [↓gpre, ↓bldS, ↓bld, ↓reduceIte, ↓gmore, gpost, gall, keepT, den, del, upd, dels, refs, hasTy, sArgs, aRefs, rvs, nodupB, memB, app, pTm, Ty.bytes, kbytes, Ty.zeroD, Ty.size, Ty.cmp, Ty.depth, Go.SE.look, reduceCtorEq, Nat.reduceAdd, Nat.reduceSub, Nat.reduceMul, Nat.reduceEqDiff, Nat.reduceLT, Nat.reduceLeDiff, Nat.reduceMod, Nat.reduceDiv, Nat.reducePow, Nat.reduceBEq, Int.reduceToNat, Int.reduceLE, Int.reduceLT, Int.reduceEq, Int.reduceAdd, Int.reduceMul, Int.reduceSub, Int.reduceNeg, Int.reduceNe, Tryd.TS, Tryd.ev_g0, Tryd.ev1_g0, Tryd.ev_g1, Tryd.ev1_g1, rep4]
          repeat' (first
            | with_reducible refine And.intro ?_ ?_
            | (with_reducible refine HCall_mono (c4) ?_; rintro rs rfl
               simp -dsimp -implicitDefEqProofs (disch := omega) only [↓gpre, ↓bldS, ↓bld, ↓reduceIte, ↓gmore, gpost, gall, keepT, den, del, upd, dels, refs, hasTy, sArgs, aRefs, rvs, nodupB, memB, app, pTm, Ty.bytes, kbytes, Ty.zeroD, Ty.size, Ty.cmp, Ty.depth, Go.SE.look, reduceCtorEq, Nat.reduceAdd, Nat.reduceSub, Nat.reduceMul, Nat.reduceEqDiff, Nat.reduceLT, Nat.reduceLeDiff, Nat.reduceMod, Nat.reduceDiv, Nat.reducePow, Nat.reduceBEq, Int.reduceToNat, Int.reduceLE, Int.reduceLT, Int.reduceEq, Int.reduceAdd, Int.reduceMul, Int.reduceSub, Int.reduceNeg, Int.reduceNe, Tryd.TS, Tryd.ev_g0, Tryd.ev1_g0, Tryd.ev_g1, Tryd.ev1_g1, rep4])
            | (with_reducible refine HCall_mono (c5) ?_; rintro rs rfl
               simp -dsimp -implicitDefEqProofs (disch := omega) only [↓gpre, ↓bldS, ↓bld, ↓reduceIte, ↓gmore, gpost, gall, keepT, den, del, upd, dels, refs, hasTy, sArgs, aRefs, rvs, nodupB, memB, app, pTm, Ty.bytes, kbytes, Ty.zeroD, Ty.size, Ty.cmp, Ty.depth, Go.SE.look, reduceCtorEq, Nat.reduceAdd, Nat.reduceSub, Nat.reduceMul, Nat.reduceEqDiff, Nat.reduceLT, Nat.reduceLeDiff, Nat.reduceMod, Nat.reduceDiv, Nat.reducePow, Nat.reduceBEq, Int.reduceToNat, Int.reduceLE, Int.reduceLT, Int.reduceEq, Int.reduceAdd, Int.reduceMul, Int.reduceSub, Int.reduceNeg, Int.reduceNe, Tryd.TS, Tryd.ev_g0, Tryd.ev1_g0, Tryd.ev_g1, Tryd.ev1_g1, rep4])
            | (with_reducible refine HCall_mono (c6) ?_; rintro rs rfl
               simp -dsimp -implicitDefEqProofs (disch := omega) only [↓gpre, ↓bldS, ↓bld, ↓reduceIte, ↓gmore, gpost, gall, keepT, den, del, upd, dels, refs, hasTy, sArgs, aRefs, rvs, nodupB, memB, app, pTm, Ty.bytes, kbytes, Ty.zeroD, Ty.size, Ty.cmp, Ty.depth, Go.SE.look, reduceCtorEq, Nat.reduceAdd, Nat.reduceSub, Nat.reduceMul, Nat.reduceEqDiff, Nat.reduceLT, Nat.reduceLeDiff, Nat.reduceMod, Nat.reduceDiv, Nat.reducePow, Nat.reduceBEq, Int.reduceToNat, Int.reduceLE, Int.reduceLT, Int.reduceEq, Int.reduceAdd, Int.reduceMul, Int.reduceSub, Int.reduceNeg, Int.reduceNe, Tryd.TS, Tryd.ev_g0, Tryd.ev1_g0, Tryd.ev_g1, Tryd.ev1_g1, rep4])
            | (with_reducible refine HCall_mono (c7) ?_; rintro rs rfl
               simp -dsimp -implicitDefEqProofs (disch := omega) only [↓gpre, ↓bldS, ↓bld, ↓reduceIte, ↓gmore, gpost, gall, keepT, den, del, upd, dels, refs, hasTy, sArgs, aRefs, rvs, nodupB, memB, app, pTm, Ty.bytes, kbytes, Ty.zeroD, Ty.size, Ty.cmp, Ty.depth, Go.SE.look, reduceCtorEq, Nat.reduceAdd, Nat.reduceSub, Nat.reduceMul, Nat.reduceEqDiff, Nat.reduceLT, Nat.reduceLeDiff, Nat.reduceMod, Nat.reduceDiv, Nat.reducePow, Nat.reduceBEq, Int.reduceToNat, Int.reduceLE, Int.reduceLT, Int.reduceEq, Int.reduceAdd, Int.reduceMul, Int.reduceSub, Int.reduceNeg, Int.reduceNe, Tryd.TS, Tryd.ev_g0, Tryd.ev1_g0, Tryd.ev_g1, Tryd.ev1_g1, rep4])
            | with_reducible exact True.intro
            | (first | (refine sub_ren w0 [(0, 0), (1, 1), (2, 2), (3, 3), (4, 4), (5, 5), (6, 10)] rfl ?_ rfl ?_ ?_; (focus (simp [keysLt]; done)); (focus (simp [renTm, Go.SE.look, renTV, renSV]; done)); (focus (simp [renOb, Go.SE.look, renSV]; done))) | (refine sub_ren w0 [(0, 0), (1, 1), (2, 2), (3, 3), (4, 4), (5, 5), (6, 9)] rfl ?_ rfl ?_ ?_; (focus (simp [keysLt]; done)); (focus (simp [renTm, Go.SE.look, renTV, renSV]; done)); (focus (simp [renOb, Go.SE.look, renSV]; done))) | (refine sub_ren w0 [(0, 0), (1, 1), (2, 2), (3, 3), (4, 4), (5, 5), (6, 8)] rfl ?_ rfl ?_ ?_; (focus (simp [keysLt]; done)); (focus (simp [renTm, Go.SE.look, renTV, renSV]; done)); (focus (simp [renOb, Go.SE.look, renSV]; done))) | (refine sub_ren w0 [(0, 0), (1, 1), (2, 2), (3, 3), (4, 4), (5, 5), (6, 7)] rfl ?_ rfl ?_ ?_; (focus (simp [keysLt]; done)); (focus (simp [renTm, Go.SE.look, renTV, renSV]; done)); (focus (simp [renOb, Go.SE.look, renSV]; done))) | (refine sub_ren w0 [(0, 0), (1, 1), (2, 2), (3, 3), (4, 4), (5, 5), (6, 6)] rfl ?_ rfl ?_ ?_; (focus (simp [keysLt]; done)); (focus (simp [renTm, Go.SE.look, renTV, renSV]; done)); (focus (simp [renOb, Go.SE.look, renSV]; done)))))
        simp -dsimp -implicitDefEqProofs (disch := omega) only [↓gpre, ↓bldS, ↓bld, ↓reduceIte, ↓gmore, gpost, gall, keepT, den, del, upd, dels, refs, hasTy, sArgs, aRefs, rvs, nodupB, memB, app, pTm, Ty.bytes, kbytes, Ty.zeroD, Ty.size, Ty.cmp, Ty.depth, Go.SE.look, reduceCtorEq, Nat.reduceAdd, Nat.reduceSub, Nat.reduceMul, Nat.reduceEqDiff, Nat.reduceLT, Nat.reduceLeDiff, Nat.reduceMod, Nat.reduceDiv, Nat.reducePow, Nat.reduceBEq, Int.reduceToNat, Int.reduceLE, Int.reduceLT, Int.reduceEq, Int.reduceAdd, Int.reduceMul, Int.reduceSub, Int.reduceNeg, Int.reduceNe, Tryd.TS, Tryd.ev_g0, Tryd.ev1_g0, Tryd.ev_g1, Tryd.ev1_g1, rep4]
        refine sdraw Tryd.hT (by kernel_rfl) [] [0, 1, 2, 3, 4, 5, 6, 7] (by kernel_rfl) (by kernel_rfl) (by kernel_rfl) ?_; simp only [pickO, List.getElem?_toArray, List.getElem?_cons_zero, List.getElem?_cons_succ]
        simp -dsimp -implicitDefEqProofs (disch := omega) only [↓gpre, ↓bldS, ↓bld, ↓reduceIte, ↓gmore, gpost, gall, keepT, den, del, upd, dels, refs, hasTy, sArgs, aRefs, rvs, nodupB, memB, app, pTm, Ty.bytes, kbytes, Ty.zeroD, Ty.size, Ty.cmp, Ty.depth, Go.SE.look, reduceCtorEq, Nat.reduceAdd, Nat.reduceSub, Nat.reduceMul, Nat.reduceEqDiff, Nat.reduceLT, Nat.reduceLeDiff, Nat.reduceMod, Nat.reduceDiv, Nat.reducePow, Nat.reduceBEq, Int.reduceToNat, Int.reduceLE, Int.reduceLT, Int.reduceEq, Int.reduceAdd, Int.reduceMul, Int.reduceSub, Int.reduceNeg, Int.reduceNe, Tryd.TS, Tryd.ev_g0, Tryd.ev1_g0, Tryd.ev_g1, Tryd.ev1_g1]
        refine SCall.mono (c8) ?_; rintro rs rfl
        simp -dsimp -implicitDefEqProofs (disch := omega) only [↓gpre, ↓bldS, ↓bld, ↓reduceIte, ↓gmore, gpost, gall, keepT, den, del, upd, dels, refs, hasTy, sArgs, aRefs, rvs, nodupB, memB, app, pTm, Ty.bytes, kbytes, Ty.zeroD, Ty.size, Ty.cmp, Ty.depth, Go.SE.look, reduceCtorEq, Nat.reduceAdd, Nat.reduceSub, Nat.reduceMul, Nat.reduceEqDiff, Nat.reduceLT, Nat.reduceLeDiff, Nat.reduceMod, Nat.reduceDiv, Nat.reducePow, Nat.reduceBEq, Int.reduceToNat, Int.reduceLE, Int.reduceLT, Int.reduceEq, Int.reduceAdd, Int.reduceMul, Int.reduceSub, Int.reduceNeg, Int.reduceNe, Tryd.TS, Tryd.ev_g0, Tryd.ev1_g0, Tryd.ev_g1, Tryd.ev1_g1, u256_inj hc l4]
end Go.Proofs
/- Signatures: the plain law. -/
namespace Go.Proofs
open Go.SE

theorem p4_one {s : Nat} (h0 : 0 < s) (hs : s < 57896044618658097711785492504343953926634992332820282019728792003956564801911) : 4 ^ s % 115792089237316195423570985008687907853269984665640564039457584007913129603823 ≠ 1 := by
  intro h
  obtain ⟨q, hq⟩ : ∃ q : Nat, q = 57896044618658097711785492504343953926634992332820282019728792003956564801911 := ⟨_, rfl⟩
  have hp : Nt.Pr q := by rw [hq]; exact Nt.pr6
  have h1 := Nt.pow_gcd (d := 115792089237316195423570985008687907853269984665640564039457584007913129603823) (a := 4) s q (by rw [h]) (by rw [four_q hq])
  have hg : Nat.gcd s q = 1 := by
    rcases hp.2 _ (Nat.gcd_dvd_right s q) with e | e
    · exact e
    · have h2 := Nat.le_of_dvd h0 (Nat.gcd_dvd_left s q)
      rw [e] at h2
      omega
  rw [hg] at h1
  simp at h1
theorem p4_inj' {a b : Nat} (hab : a ≤ b) (hb : b < 57896044618658097711785492504343953926634992332820282019728792003956564801911) (h : 4 ^ a % 115792089237316195423570985008687907853269984665640564039457584007913129603823 = 4 ^ b % 115792089237316195423570985008687907853269984665640564039457584007913129603823) : a = b := by
  rcases Nat.eq_or_lt_of_le hab with e | hlt
  · exact e
  exfalso
  have e : 4 ^ b = 4 ^ a * 4 ^ (b - a) := by rw [← Nat.pow_add]; congr 1; omega
  have hpos : 1 ≤ 4 ^ (b - a) := Nat.pow_pos (by omega)
  obtain ⟨q, hq⟩ : ∃ q : Nat, q = 57896044618658097711785492504343953926634992332820282019728792003956564801911 := ⟨_, rfl⟩
  have hna := p4_ne hq a
  refine p4_one (s := b - a) (by omega) (by omega) ?_
  rw [e] at h
  generalize 4 ^ a = u at *
  generalize 4 ^ (b - a) = v at *
  have hd : 115792089237316195423570985008687907853269984665640564039457584007913129603823 ∣ u * (v - 1) := by
    have h2 : u * (v - 1) + u = u * v := by rw [← Nat.mul_succ]; congr 1; omega
    generalize u * (v - 1) = k at *
    generalize u * v = l at *
    omega
  rcases Nt.pr7.dvd_mul hd with h3 | h3
  · exact absurd (Nat.mod_eq_zero_of_dvd h3) hna
  · have : Nt.thePrime = 115792089237316195423570985008687907853269984665640564039457584007913129603823 := rfl
    rw [this] at h3
    omega
theorem p4_inj {a b : Nat} (ha : a < 57896044618658097711785492504343953926634992332820282019728792003956564801911) (hb : b < 57896044618658097711785492504343953926634992332820282019728792003956564801911) (h : 4 ^ a % 115792089237316195423570985008687907853269984665640564039457584007913129603823 = 4 ^ b % 115792089237316195423570985008687907853269984665640564039457584007913129603823) : a = b := by
  rcases Nat.le_total a b with h1 | h1
  · exact p4_inj' h1 hb h
  · exact (p4_inj' h1 ha h.symm).symm

/-- The public key of a secret is valid. -/
theorem val_pub {q s : Nat} (hq : q = 57896044618658097711785492504343953926634992332820282019728792003956564801911) (hs : secB s = true) : valB q (pubN s) = true := by
  unfold secB at hs
  simp only [Bool.and_eq_true, decide_eq_true_eq] at hs
  unfold valB pubN
  rw [if_pos (by unfold secB; simp only [Bool.and_eq_true, decide_eq_true_eq]; exact hs), p4_mem hq, Bool.and_true, decide_eq_true]
  exact p4_one (by omega) hs.2
/-- The commitment that a signature leads to, as a power. -/
theorem com_pow {q s c z : Nat} (hq : q = 57896044618658097711785492504343953926634992332820282019728792003956564801911) (hs : secB s = true) : 4 ^ z % 115792089237316195423570985008687907853269984665640564039457584007913129603823 * (pubN s ^ ngq c % 115792089237316195423570985008687907853269984665640564039457584007913129603823) % 115792089237316195423570985008687907853269984665640564039457584007913129603823 = 4 ^ ((z + s * ngq c) % q) % 115792089237316195423570985008687907853269984665640564039457584007913129603823 := by
  unfold pubN
  rw [if_pos hs, p4_pow, p4_mul, p4_mod hq]
theorem ngq_sum2 (s : Nat) : (s + ngq s) % 57896044618658097711785492504343953926634992332820282019728792003956564801911 = 0 := by unfold ngq; omega
theorem sig_exp {q k c s : Nat} (hq : q = 57896044618658097711785492504343953926634992332820282019728792003956564801911) (hk : k < q) : ((k + c * s % 57896044618658097711785492504343953926634992332820282019728792003956564801911) % 57896044618658097711785492504343953926634992332820282019728792003956564801911 + s * ngq c) % q = k := by
  have h1 := ngq_sum2 c
  rw [← hq] at *
  obtain ⟨j, hj⟩ : ∃ j, c + ngq c = q * j := ⟨(c + ngq c) / q, by rw [Nat.mul_div_cancel' (Nat.dvd_of_mod_eq_zero h1)]⟩
  have e : k + c * s + s * ngq c = k + q * (s * j) := by
    rw [Nat.add_assoc, Nat.mul_comm c s, ← Nat.mul_add, hj, Nat.mul_left_comm]
  rw [Nat.add_mod, Nat.mod_mod, ← Nat.add_mod, show k + c * s % q + s * ngq c = (k + s * ngq c) + c * s % q by omega, Nat.add_mod, Nat.mod_mod, ← Nat.add_mod, show k + s * ngq c + c * s = k + c * s + s * ngq c by omega, e, Nat.add_mul_mod_self_left, Nat.mod_eq_of_lt hk]
theorem sigC_lt (s : Nat) (m : List D) : sigC s m < 57896044618658097711785492504343953926634992332820282019728792003956564801911 := chal_lt _ _ _
theorem sigR_lt (s : Nat) (m : List D) : sigR s m < 57896044618658097711785492504343953926634992332820282019728792003956564801911 := Nat.mod_lt _ (by omega)
/-- What a secret signs is verified by its public key. -/
theorem ver_sig {q s : Nat} (m : List D) (hq : q = 57896044618658097711785492504343953926634992332820282019728792003956564801911) (hs : secB s = true) : verB q (pubN s) m (sigC s m) (sigR s m) = true := by
  unfold verB
  rw [val_pub hq hs, decide_eq_true (sigC_lt s m), decide_eq_true (sigR_lt s m), com_pow hq hs]
  have : (sigR s m + s * ngq (sigC s m)) % q = nonc s m := sig_exp hq (by rw [hq]; exact nonc_lt s m)
  rw [this]
  simp only [Bool.true_and, decide_eq_true_eq]
  rfl
/-- Two responses to one challenge lead to two commitments. -/
theorem com_ne {q s c z z2 : Nat} (hq : q = 57896044618658097711785492504343953926634992332820282019728792003956564801911) (hs : secB s = true) (hz : z < 57896044618658097711785492504343953926634992332820282019728792003956564801911) (hz2 : z2 < 57896044618658097711785492504343953926634992332820282019728792003956564801911) (h : 4 ^ z % 115792089237316195423570985008687907853269984665640564039457584007913129603823 * (pubN s ^ ngq c % 115792089237316195423570985008687907853269984665640564039457584007913129603823) % 115792089237316195423570985008687907853269984665640564039457584007913129603823 = 4 ^ z2 % 115792089237316195423570985008687907853269984665640564039457584007913129603823 * (pubN s ^ ngq c % 115792089237316195423570985008687907853269984665640564039457584007913129603823) % 115792089237316195423570985008687907853269984665640564039457584007913129603823) : z = z2 := by
  rw [com_pow hq hs, com_pow hq hs] at h
  have := p4_inj (by rw [← hq]; exact Nat.mod_lt _ (by omega)) (by rw [← hq]; exact Nat.mod_lt _ (by omega)) h
  generalize s * ngq c = w at this
  subst hq
  omega
end Go.Proofs
/- Signatures: the reference's powers, commitments, the sanity check. -/
namespace Go.Proofs
open Go.SE

set_option maxHeartbeats 1000000 in
theorem gmulRef (a b : Nat) (ha : a < 115792089237316195423570985008687907853269984665640564039457584007913129639936) (hb : b < 115792089237316195423570985008687907853269984665640564039457584007913129639936) : SCall Tryd.prog 52 [(.arr 4 (.int .u64), u256 a), (.arr 4 (.int .u64), u256 b)] (fun rs => rs = [.d (.arr 4 (.int .u64)) (u256 (a * b % 115792089237316195423570985008687907853269984665640564039457584007913129603823))]) := by
  have c := wmulmodRef a b 115792089237316195423570985008687907853269984665640564039457584007913129603823 ha hb (by omega) (by omega)
  generalize a * b % 115792089237316195423570985008687907853269984665640564039457584007913129603823 = e at *
  refine scall_intro (n := 9) (rl := [.cell 4 45]) (us := [45]) Tryd.hT Tryd.func52 rfl rfl rfl rfl rfl (Nat.le_of_ble_eq_true rfl) ?_
  intro w0
  simp -dsimp -implicitDefEqProofs (disch := omega) only [↓gpre, ↓bldS, ↓bld, ↓reduceIte, ↓gmore, gpost, gall, keepT, den, del, upd, dels, refs, hasTy, sArgs, aRefs, rvs, nodupB, memB, app, pTm, Ty.bytes, kbytes, Ty.zeroD, Ty.size, Ty.cmp, Ty.depth, Go.SE.look, reduceCtorEq, Nat.reduceAdd, Nat.reduceSub, Nat.reduceMul, Nat.reduceEqDiff, Nat.reduceLT, Nat.reduceLeDiff, Nat.reduceMod, Nat.reduceDiv, Nat.reducePow, Nat.reduceBEq, Int.reduceToNat, Int.reduceLE, Int.reduceLT, Int.reduceEq, Int.reduceAdd, Int.reduceMul, Int.reduceSub, Int.reduceNeg, Int.reduceNe, Tryd.TS, Tryd.ev_g0, Tryd.ev1_g0, Tryd.ev_g1, Tryd.ev1_g1, rep4]
  refine sdraw Tryd.hT (by kernel_rfl) [4] [0, 1, 2, 3, 4] (by kernel_rfl) (by kernel_rfl) (by kernel_rfl) ?_; simp only [pickO, List.getElem?_toArray, List.getElem?_cons_zero, List.getElem?_cons_succ]
  simp -dsimp -implicitDefEqProofs (disch := omega) only [↓gpre, ↓bldS, ↓bld, ↓reduceIte, ↓gmore, gpost, gall, keepT, den, del, upd, dels, refs, hasTy, sArgs, aRefs, rvs, nodupB, memB, app, pTm, Ty.bytes, kbytes, Ty.zeroD, Ty.size, Ty.cmp, Ty.depth, Go.SE.look, reduceCtorEq, Nat.reduceAdd, Nat.reduceSub, Nat.reduceMul, Nat.reduceEqDiff, Nat.reduceLT, Nat.reduceLeDiff, Nat.reduceMod, Nat.reduceDiv, Nat.reducePow, Nat.reduceBEq, Int.reduceToNat, Int.reduceLE, Int.reduceLT, Int.reduceEq, Int.reduceAdd, Int.reduceMul, Int.reduceSub, Int.reduceNeg, Int.reduceNe, Tryd.TS, Tryd.ev_g0, Tryd.ev1_g0, Tryd.ev_g1, Tryd.ev1_g1]
  refine SCall.mono (gmodulusRef) ?_; rintro rs rfl
  simp -dsimp -implicitDefEqProofs (disch := omega) only [↓gpre, ↓bldS, ↓bld, ↓reduceIte, ↓gmore, gpost, gall, keepT, den, del, upd, dels, refs, hasTy, sArgs, aRefs, rvs, nodupB, memB, app, pTm, Ty.bytes, kbytes, Ty.zeroD, Ty.size, Ty.cmp, Ty.depth, Go.SE.look, reduceCtorEq, Nat.reduceAdd, Nat.reduceSub, Nat.reduceMul, Nat.reduceEqDiff, Nat.reduceLT, Nat.reduceLeDiff, Nat.reduceMod, Nat.reduceDiv, Nat.reducePow, Nat.reduceBEq, Int.reduceToNat, Int.reduceLE, Int.reduceLT, Int.reduceEq, Int.reduceAdd, Int.reduceMul, Int.reduceSub, Int.reduceNeg, Int.reduceNe, Tryd.TS, Tryd.ev_g0, Tryd.ev1_g0, Tryd.ev_g1, Tryd.ev1_g1]
  refine SCall.mono (c) ?_; rintro rs rfl
  simp -dsimp -implicitDefEqProofs (disch := omega) only [↓gpre, ↓bldS, ↓bld, ↓reduceIte, ↓gmore, gpost, gall, keepT, den, del, upd, dels, refs, hasTy, sArgs, aRefs, rvs, nodupB, memB, app, pTm, Ty.bytes, kbytes, Ty.zeroD, Ty.size, Ty.cmp, Ty.depth, Go.SE.look, reduceCtorEq, Nat.reduceAdd, Nat.reduceSub, Nat.reduceMul, Nat.reduceEqDiff, Nat.reduceLT, Nat.reduceLeDiff, Nat.reduceMod, Nat.reduceDiv, Nat.reducePow, Nat.reduceBEq, Int.reduceToNat, Int.reduceLE, Int.reduceLT, Int.reduceEq, Int.reduceAdd, Int.reduceMul, Int.reduceSub, Int.reduceNeg, Int.reduceNe, Tryd.TS, Tryd.ev_g0, Tryd.ev1_g0, Tryd.ev_g1, Tryd.ev1_g1]

set_option maxHeartbeats 1000000 in
theorem gpowerRef (e : Nat) (he : e < 115792089237316195423570985008687907853269984665640564039457584007913129639936) : SCall Tryd.prog 53 [(.arr 4 (.int .u64), u256 e)] (fun rs => rs = [.d (.arr 4 (.int .u64)) (u256 (4 ^ e % 115792089237316195423570985008687907853269984665640564039457584007913129603823))]) := by
  have hf : SCall Tryd.prog 64 [(.int .u64, .n 4)] (fun rs => rs = [.d (.arr 4 (.int .u64)) (u256 4)]) := fromUintRef 4 (by omega)
  have c := gexpRef 4 e (by omega) he
  generalize 4 ^ e % 115792089237316195423570985008687907853269984665640564039457584007913129603823 = y at *
  refine scall_intro (n := 6) (rl := [.cell 2 45]) (us := [45]) Tryd.hT Tryd.func53 rfl rfl rfl rfl rfl (Nat.le_of_ble_eq_true rfl) ?_
  intro w0
  simp -dsimp -implicitDefEqProofs (disch := omega) only [↓gpre, ↓bldS, ↓bld, ↓reduceIte, ↓gmore, gpost, gall, keepT, den, del, upd, dels, refs, hasTy, sArgs, aRefs, rvs, nodupB, memB, app, pTm, Ty.bytes, kbytes, Ty.zeroD, Ty.size, Ty.cmp, Ty.depth, Go.SE.look, reduceCtorEq, Nat.reduceAdd, Nat.reduceSub, Nat.reduceMul, Nat.reduceEqDiff, Nat.reduceLT, Nat.reduceLeDiff, Nat.reduceMod, Nat.reduceDiv, Nat.reducePow, Nat.reduceBEq, Int.reduceToNat, Int.reduceLE, Int.reduceLT, Int.reduceEq, Int.reduceAdd, Int.reduceMul, Int.reduceSub, Int.reduceNeg, Int.reduceNe, Tryd.TS, Tryd.ev_g0, Tryd.ev1_g0, Tryd.ev_g1, Tryd.ev1_g1, rep4]
  refine sdraw Tryd.hT (by kernel_rfl) [3] [1, 0, 2, 3] (by kernel_rfl) (by kernel_rfl) (by kernel_rfl) ?_; simp only [pickO, List.getElem?_toArray, List.getElem?_cons_zero, List.getElem?_cons_succ]
  simp -dsimp -implicitDefEqProofs (disch := omega) only [↓gpre, ↓bldS, ↓bld, ↓reduceIte, ↓gmore, gpost, gall, keepT, den, del, upd, dels, refs, hasTy, sArgs, aRefs, rvs, nodupB, memB, app, pTm, Ty.bytes, kbytes, Ty.zeroD, Ty.size, Ty.cmp, Ty.depth, Go.SE.look, reduceCtorEq, Nat.reduceAdd, Nat.reduceSub, Nat.reduceMul, Nat.reduceEqDiff, Nat.reduceLT, Nat.reduceLeDiff, Nat.reduceMod, Nat.reduceDiv, Nat.reducePow, Nat.reduceBEq, Int.reduceToNat, Int.reduceLE, Int.reduceLT, Int.reduceEq, Int.reduceAdd, Int.reduceMul, Int.reduceSub, Int.reduceNeg, Int.reduceNe, Tryd.TS, Tryd.ev_g0, Tryd.ev1_g0, Tryd.ev_g1, Tryd.ev1_g1]
  refine SCall.mono (hf) ?_; rintro rs rfl
  simp -dsimp -implicitDefEqProofs (disch := omega) only [↓gpre, ↓bldS, ↓bld, ↓reduceIte, ↓gmore, gpost, gall, keepT, den, del, upd, dels, refs, hasTy, sArgs, aRefs, rvs, nodupB, memB, app, pTm, Ty.bytes, kbytes, Ty.zeroD, Ty.size, Ty.cmp, Ty.depth, Go.SE.look, reduceCtorEq, Nat.reduceAdd, Nat.reduceSub, Nat.reduceMul, Nat.reduceEqDiff, Nat.reduceLT, Nat.reduceLeDiff, Nat.reduceMod, Nat.reduceDiv, Nat.reducePow, Nat.reduceBEq, Int.reduceToNat, Int.reduceLE, Int.reduceLT, Int.reduceEq, Int.reduceAdd, Int.reduceMul, Int.reduceSub, Int.reduceNeg, Int.reduceNe, Tryd.TS, Tryd.ev_g0, Tryd.ev1_g0, Tryd.ev_g1, Tryd.ev1_g1]
  refine SCall.mono (c) ?_; rintro rs rfl
  simp -dsimp -implicitDefEqProofs (disch := omega) only [↓gpre, ↓bldS, ↓bld, ↓reduceIte, ↓gmore, gpost, gall, keepT, den, del, upd, dels, refs, hasTy, sArgs, aRefs, rvs, nodupB, memB, app, pTm, Ty.bytes, kbytes, Ty.zeroD, Ty.size, Ty.cmp, Ty.depth, Go.SE.look, reduceCtorEq, Nat.reduceAdd, Nat.reduceSub, Nat.reduceMul, Nat.reduceEqDiff, Nat.reduceLT, Nat.reduceLeDiff, Nat.reduceMod, Nat.reduceDiv, Nat.reducePow, Nat.reduceBEq, Int.reduceToNat, Int.reduceLE, Int.reduceLT, Int.reduceEq, Int.reduceAdd, Int.reduceMul, Int.reduceSub, Int.reduceNeg, Int.reduceNe, Tryd.TS, Tryd.ev_g0, Tryd.ev1_g0, Tryd.ev_g1, Tryd.ev1_g1]

set_option maxHeartbeats 4000000 in
theorem scommit (x c z : Nat) (hx : x < 115792089237316195423570985008687907853269984665640564039457584007913129639936) (hc : c < 115792089237316195423570985008687907853269984665640564039457584007913129639936) (hz : z < 115792089237316195423570985008687907853269984665640564039457584007913129639936) : SCall Tryd.prog 18 [(.arr 4 (.int .u64), u256 x), (.cons (.arr 4 (.int .u64)) (.cons (.arr 4 (.int .u64)) .nil), .l [u256 c, u256 z])]
    (fun rs => rs = [.d (.arr 4 (.int .u64)) (u256 (4 ^ z % 115792089237316195423570985008687907853269984665640564039457584007913129603823 * (x ^ ngq c % 115792089237316195423570985008687907853269984665640564039457584007913129603823) % 115792089237316195423570985008687907853269984665640564039457584007913129603823))]) := by
  have c4 := gpowerRef z hz
  have c5 := gnegScalarRef c hc
  have hn : ngq c < 115792089237316195423570985008687907853269984665640564039457584007913129639936 := Nat.lt_trans (ngq_lt c) (by omega)
  have c6 := gexpRef x (ngq c) hx hn
  have l1 : 4 ^ z % 115792089237316195423570985008687907853269984665640564039457584007913129603823 < 115792089237316195423570985008687907853269984665640564039457584007913129639936 := Nat.lt_trans (p4_lt z) (by omega)
  have l2 : x ^ ngq c % 115792089237316195423570985008687907853269984665640564039457584007913129603823 < 115792089237316195423570985008687907853269984665640564039457584007913129639936 := Nat.lt_trans (Nat.mod_lt _ (by omega)) (show 115792089237316195423570985008687907853269984665640564039457584007913129603823 < 115792089237316195423570985008687907853269984665640564039457584007913129639936 by omega)
  have c7 := gmulRef (4 ^ z % 115792089237316195423570985008687907853269984665640564039457584007913129603823) (x ^ ngq c % 115792089237316195423570985008687907853269984665640564039457584007913129603823) l1 l2
  generalize 4 ^ z % 115792089237316195423570985008687907853269984665640564039457584007913129603823 * (x ^ ngq c % 115792089237316195423570985008687907853269984665640564039457584007913129603823) % 115792089237316195423570985008687907853269984665640564039457584007913129603823 = w at *
  generalize x ^ ngq c % 115792089237316195423570985008687907853269984665640564039457584007913129603823 = u at *
  generalize 4 ^ z % 115792089237316195423570985008687907853269984665640564039457584007913129603823 = t at *
  generalize ngq c = n at *
  refine scall_intro (n := 14) (rl := [.cell 4 45]) (us := [45]) Tryd.hT Tryd.func18 rfl rfl rfl rfl rfl (Nat.le_of_ble_eq_true rfl) ?_
  intro w0
  simp -dsimp -implicitDefEqProofs (disch := omega) only [↓gpre, ↓bldS, ↓bld, ↓reduceIte, ↓gmore, gpost, gall, keepT, den, del, upd, dels, refs, hasTy, sArgs, aRefs, rvs, nodupB, memB, app, pTm, Ty.bytes, kbytes, Ty.zeroD, Ty.size, Ty.cmp, Ty.depth, Go.SE.look, reduceCtorEq, Nat.reduceAdd, Nat.reduceSub, Nat.reduceMul, Nat.reduceEqDiff, Nat.reduceLT, Nat.reduceLeDiff, Nat.reduceMod, Nat.reduceDiv, Nat.reducePow, Nat.reduceBEq, Int.reduceToNat, Int.reduceLE, Int.reduceLT, Int.reduceEq, Int.reduceAdd, Int.reduceMul, Int.reduceSub, Int.reduceNeg, Int.reduceNe, Tryd.TS, Tryd.ev_g0, Tryd.ev1_g0, Tryd.ev_g1, Tryd.ev1_g1, rep4]
  refine sdraw Tryd.hT (by kernel_rfl) [9] [0, 1, 3, 4, 5, 2, 6, 7, 8, 9] (by kernel_rfl) (by kernel_rfl) (by kernel_rfl) ?_; simp only [pickO, List.getElem?_toArray, List.getElem?_cons_zero, List.getElem?_cons_succ]
  simp -dsimp -implicitDefEqProofs (disch := omega) only [↓gpre, ↓bldS, ↓bld, ↓reduceIte, ↓gmore, gpost, gall, keepT, den, del, upd, dels, refs, hasTy, sArgs, aRefs, rvs, nodupB, memB, app, pTm, Ty.bytes, kbytes, Ty.zeroD, Ty.size, Ty.cmp, Ty.depth, Go.SE.look, reduceCtorEq, Nat.reduceAdd, Nat.reduceSub, Nat.reduceMul, Nat.reduceEqDiff, Nat.reduceLT, Nat.reduceLeDiff, Nat.reduceMod, Nat.reduceDiv, Nat.reducePow, Nat.reduceBEq, Int.reduceToNat, Int.reduceLE, Int.reduceLT, Int.reduceEq, Int.reduceAdd, Int.reduceMul, Int.reduceSub, Int.reduceNeg, Int.reduceNe, Tryd.TS, Tryd.ev_g0, Tryd.ev1_g0, Tryd.ev_g1, Tryd.ev1_g1]
  refine SCall.mono (c4) ?_; rintro rs rfl
  simp -dsimp -implicitDefEqProofs (disch := omega) only [↓gpre, ↓bldS, ↓bld, ↓reduceIte, ↓gmore, gpost, gall, keepT, den, del, upd, dels, refs, hasTy, sArgs, aRefs, rvs, nodupB, memB, app, pTm, Ty.bytes, kbytes, Ty.zeroD, Ty.size, Ty.cmp, Ty.depth, Go.SE.look, reduceCtorEq, Nat.reduceAdd, Nat.reduceSub, Nat.reduceMul, Nat.reduceEqDiff, Nat.reduceLT, Nat.reduceLeDiff, Nat.reduceMod, Nat.reduceDiv, Nat.reducePow, Nat.reduceBEq, Int.reduceToNat, Int.reduceLE, Int.reduceLT, Int.reduceEq, Int.reduceAdd, Int.reduceMul, Int.reduceSub, Int.reduceNeg, Int.reduceNe, Tryd.TS, Tryd.ev_g0, Tryd.ev1_g0, Tryd.ev_g1, Tryd.ev1_g1]
  refine SCall.mono (c5) ?_; rintro rs rfl
  simp -dsimp -implicitDefEqProofs (disch := omega) only [↓gpre, ↓bldS, ↓bld, ↓reduceIte, ↓gmore, gpost, gall, keepT, den, del, upd, dels, refs, hasTy, sArgs, aRefs, rvs, nodupB, memB, app, pTm, Ty.bytes, kbytes, Ty.zeroD, Ty.size, Ty.cmp, Ty.depth, Go.SE.look, reduceCtorEq, Nat.reduceAdd, Nat.reduceSub, Nat.reduceMul, Nat.reduceEqDiff, Nat.reduceLT, Nat.reduceLeDiff, Nat.reduceMod, Nat.reduceDiv, Nat.reducePow, Nat.reduceBEq, Int.reduceToNat, Int.reduceLE, Int.reduceLT, Int.reduceEq, Int.reduceAdd, Int.reduceMul, Int.reduceSub, Int.reduceNeg, Int.reduceNe, Tryd.TS, Tryd.ev_g0, Tryd.ev1_g0, Tryd.ev_g1, Tryd.ev1_g1]
  refine SCall.mono (c6) ?_; rintro rs rfl
  simp -dsimp -implicitDefEqProofs (disch := omega) only [↓gpre, ↓bldS, ↓bld, ↓reduceIte, ↓gmore, gpost, gall, keepT, den, del, upd, dels, refs, hasTy, sArgs, aRefs, rvs, nodupB, memB, app, pTm, Ty.bytes, kbytes, Ty.zeroD, Ty.size, Ty.cmp, Ty.depth, Go.SE.look, reduceCtorEq, Nat.reduceAdd, Nat.reduceSub, Nat.reduceMul, Nat.reduceEqDiff, Nat.reduceLT, Nat.reduceLeDiff, Nat.reduceMod, Nat.reduceDiv, Nat.reducePow, Nat.reduceBEq, Int.reduceToNat, Int.reduceLE, Int.reduceLT, Int.reduceEq, Int.reduceAdd, Int.reduceMul, Int.reduceSub, Int.reduceNeg, Int.reduceNe, Tryd.TS, Tryd.ev_g0, Tryd.ev1_g0, Tryd.ev_g1, Tryd.ev1_g1]
  refine SCall.mono (c7) ?_; rintro rs rfl
  simp -dsimp -implicitDefEqProofs (disch := omega) only [↓gpre, ↓bldS, ↓bld, ↓reduceIte, ↓gmore, gpost, gall, keepT, den, del, upd, dels, refs, hasTy, sArgs, aRefs, rvs, nodupB, memB, app, pTm, Ty.bytes, kbytes, Ty.zeroD, Ty.size, Ty.cmp, Ty.depth, Go.SE.look, reduceCtorEq, Nat.reduceAdd, Nat.reduceSub, Nat.reduceMul, Nat.reduceEqDiff, Nat.reduceLT, Nat.reduceLeDiff, Nat.reduceMod, Nat.reduceDiv, Nat.reducePow, Nat.reduceBEq, Int.reduceToNat, Int.reduceLE, Int.reduceLT, Int.reduceEq, Int.reduceAdd, Int.reduceMul, Int.reduceSub, Int.reduceNeg, Int.reduceNe, Tryd.TS, Tryd.ev_g0, Tryd.ev1_g0, Tryd.ev_g1, Tryd.ev1_g1]
end Go.Proofs
/- Signatures: what the sanity check reckons. -/
namespace Go.Proofs
open Go.SE

def m9 : List D := .n 9 :: List.replicate 31 (.n 0)
def m8 : List D := .n 8 :: List.replicate 31 (.n 0)
theorem m9_by : BY m9 := .cons (n := 9) (by omega) (fun x hx => ⟨0, List.eq_of_mem_replicate hx, by omega⟩)
theorem m8_by : BY m8 := .cons (n := 8) (by omega) (fun x hx => ⟨0, List.eq_of_mem_replicate hx, by omega⟩)
theorem k9 : nonc 1 m9 = 34517855608631459778318790968346957052021824314223759952716990743715090576640 := by decide +kernel
theorem r9 : 4 ^ nonc 1 m9 % 115792089237316195423570985008687907853269984665640564039457584007913129603823 = 14500575653409901411290387783030309382191086797220558246115933178479965539775 := by
  rw [k9]
  obtain ⟨e, he⟩ : ∃ e : Nat, e = 34517855608631459778318790968346957052021824314223759952716990743715090576640 := ⟨_, rfl⟩
  rw [← he, ← Nt.pm_ok 115792089237316195423570985008687907853269984665640564039457584007913129603823 256 4 e (by omega), he]
  decide +kernel
theorem c9 : chal 14500575653409901411290387783030309382191086797220558246115933178479965539775 4 m9 = 55212807338262820438849241152816710381982209471871400867457725177904933943699 := by decide +kernel
theorem c8 : chal 14500575653409901411290387783030309382191086797220558246115933178479965539775 4 m8 = 34904273341293243886062390803637023782484123166012357825590957433480282439107 := by decide +kernel
end Go.Proofs
/- Signatures: the sanity check. -/
namespace Go.Proofs
open Go.SE

theorem sec1 : secB 1 = true := by
  unfold secB
  rw [decide_eq_true (show 1 ≠ 0 by omega), decide_eq_true (show 1 < 57896044618658097711785492504343953926634992332820282019728792003956564801911 by omega)]
  rfl
theorem pub1 : pubN 1 = 4 := by
  unfold pubN
  rw [if_pos sec1, Nat.pow_one]
theorem h9 : (List.replicate 32 (D.n 0)).set 0 (D.n 9) = m9 := rfl
theorem h8 : (List.replicate 32 (D.n 0)).set 0 (D.n 8) = m8 := rfl
theorem ver_sig' {q s y : Nat} (m : List D) (hq : q = 57896044618658097711785492504343953926634992332820282019728792003956564801911) (hs : secB s = true) (hy : pubN s = y) : verB q y m (sigC s m) (sigR s m) = true := by
  subst hy
  exact ver_sig m hq hs
theorem ver_not {q s y r c c' : Nat} (m m' : List D) (hq : q = 57896044618658097711785492504343953926634992332820282019728792003956564801911) (hs : secB s = true) (hy : pubN s = y) (hr : 4 ^ nonc s m % 115792089237316195423570985008687907853269984665640564039457584007913129603823 = r) (hc : chal r y m = c) (hc' : chal r y m' = c') (hne : ¬ c = c') : verB q y m' (sigC s m) (sigR s m) = false := by
  have h := com_pow (q := q) (s := s) (c := sigC s m) (z := sigR s m) hq hs
  have he : (sigR s m + s * ngq (sigC s m)) % q = nonc s m := sig_exp hq (by rw [hq]; exact nonc_lt s m)
  rw [he, hy, hr] at h
  have hs : sigC s m = c := by unfold sigC; rw [hr, hy, hc]
  unfold verB
  rw [h, hc', hs, decide_eq_false hne]
  simp only [Bool.and_false]
theorem ver9 {q : Nat} (hq : q = 57896044618658097711785492504343953926634992332820282019728792003956564801911) : verB q 4 m9 (sigC 1 m9) (sigR 1 m9) = true := ver_sig' m9 hq sec1 pub1
theorem ver8 {q : Nat} (hq : q = 57896044618658097711785492504343953926634992332820282019728792003956564801911) : verB q 4 m8 (sigC 1 m9) (sigR 1 m9) = false := ver_not m9 m8 hq sec1 pub1 r9 c9 c8 (by omega)
theorem val1 (q : Nat) : valB q 1 = false := by simp [valB]
theorem u4 : D.l [.n 4, .n 0, .n 0, .n 0] = u256 4 := rfl
theorem u1 : D.l [.n 1, .n 0, .n 0, .n 0] = u256 1 := rfl

set_option maxHeartbeats 4000000 in
set_option maxRecDepth 100000 in
theorem gsane6 (q : Nat) (hq : q = 57896044618658097711785492504343953926634992332820282019728792003956564801911) : SCall Tryd.prog 14 [] (fun rs => rs = [.d .bool (.b true)]) := by
  have p1 := spublic 1 (by omega)
  have p2 := ssign 1 m9 (by omega) m9_by rfl
  have lC : sigC 1 m9 < 115792089237316195423570985008687907853269984665640564039457584007913129639936 := Nat.lt_trans (sigC_lt _ _) (by omega)
  have lR : sigR 1 m9 < 115792089237316195423570985008687907853269984665640564039457584007913129639936 := Nat.lt_trans (sigR_lt _ _) (by omega)
  have p3 := sverify 4 q (sigC 1 m9) (sigR 1 m9) m9 (by omega) lC lR m9_by rfl hq
  have p4 := sverify 4 q (sigC 1 m9) (sigR 1 m9) m8 (by omega) lC lR m8_by rfl hq
  have p5 := svalid 1 q (by omega) hq
  rw [ver9 hq] at p3
  rw [ver8 hq] at p4
  rw [val1] at p5
  rw [pub1, show pubE 1 = 0 by unfold pubE; rw [if_pos sec1]] at p1
  rw [if_pos sec1, show pubE 1 = 0 by unfold pubE; rw [if_pos sec1]] at p2
  generalize sigC 1 m9 = c at *
  generalize sigR 1 m9 = z at *
  refine scall_intro (n := 45) (rl := [.tmp 0]) (us := [4]) Tryd.hT Tryd.func14 rfl rfl rfl rfl rfl (Nat.le_of_ble_eq_true rfl) ?_
  intro w0
  simp -dsimp -implicitDefEqProofs (disch := omega) only [↓gpre, ↓bldS, ↓bld, ↓reduceIte, ↓gmore, gpost, gall, keepT, den, del, upd, dels, refs, hasTy, sArgs, aRefs, rvs, nodupB, memB, app, pTm, Ty.bytes, kbytes, Ty.zeroD, Ty.size, Ty.cmp, Ty.depth, Go.SE.look, reduceCtorEq, Nat.reduceAdd, Nat.reduceSub, Nat.reduceMul, Nat.reduceEqDiff, Nat.reduceLT, Nat.reduceLeDiff, Nat.reduceMod, Nat.reduceDiv, Nat.reducePow, Nat.reduceBEq, Int.reduceToNat, Int.reduceLE, Int.reduceLT, Int.reduceEq, Int.reduceAdd, Int.reduceMul, Int.reduceSub, Int.reduceNeg, Int.reduceNe, Tryd.TS, Tryd.ev_g0, Tryd.ev1_g0, Tryd.ev_g1, Tryd.ev1_g1, rep4, u1, u4]
  refine SCall.mono (p1) ?_; rintro rs rfl
  simp -dsimp -implicitDefEqProofs (disch := omega) only [↓gpre, ↓bldS, ↓bld, ↓reduceIte, ↓gmore, gpost, gall, keepT, den, del, upd, dels, refs, hasTy, sArgs, aRefs, rvs, nodupB, memB, app, pTm, Ty.bytes, kbytes, Ty.zeroD, Ty.size, Ty.cmp, Ty.depth, Go.SE.look, reduceCtorEq, Nat.reduceAdd, Nat.reduceSub, Nat.reduceMul, Nat.reduceEqDiff, Nat.reduceLT, Nat.reduceLeDiff, Nat.reduceMod, Nat.reduceDiv, Nat.reducePow, Nat.reduceBEq, Int.reduceToNat, Int.reduceLE, Int.reduceLT, Int.reduceEq, Int.reduceAdd, Int.reduceMul, Int.reduceSub, Int.reduceNeg, Int.reduceNe, Tryd.TS, Tryd.ev_g0, Tryd.ev1_g0, Tryd.ev_g1, Tryd.ev1_g1, rep4, u1, u4, h9]
  refine SCall.mono (p2) ?_; rintro rs rfl
  simp -dsimp -implicitDefEqProofs (disch := omega) only [↓gpre, ↓bldS, ↓bld, ↓reduceIte, ↓gmore, gpost, gall, keepT, den, del, upd, dels, refs, hasTy, sArgs, aRefs, rvs, nodupB, memB, app, pTm, Ty.bytes, kbytes, Ty.zeroD, Ty.size, Ty.cmp, Ty.depth, Go.SE.look, reduceCtorEq, Nat.reduceAdd, Nat.reduceSub, Nat.reduceMul, Nat.reduceEqDiff, Nat.reduceLT, Nat.reduceLeDiff, Nat.reduceMod, Nat.reduceDiv, Nat.reducePow, Nat.reduceBEq, Int.reduceToNat, Int.reduceLE, Int.reduceLT, Int.reduceEq, Int.reduceAdd, Int.reduceMul, Int.reduceSub, Int.reduceNeg, Int.reduceNe, Tryd.TS, Tryd.ev_g0, Tryd.ev1_g0, Tryd.ev_g1, Tryd.ev1_g1, rep4, u1, u4, h9, h8, u256_inj (show 4 < 115792089237316195423570985008687907853269984665640564039457584007913129639936 by omega) (show 4 < 115792089237316195423570985008687907853269984665640564039457584007913129639936 by omega)]
  refine SCall.mono (p3) ?_; rintro rs rfl
  simp -dsimp -implicitDefEqProofs (disch := omega) only [↓gpre, ↓bldS, ↓bld, ↓reduceIte, ↓gmore, gpost, gall, keepT, den, del, upd, dels, refs, hasTy, sArgs, aRefs, rvs, nodupB, memB, app, pTm, Ty.bytes, kbytes, Ty.zeroD, Ty.size, Ty.cmp, Ty.depth, Go.SE.look, reduceCtorEq, Nat.reduceAdd, Nat.reduceSub, Nat.reduceMul, Nat.reduceEqDiff, Nat.reduceLT, Nat.reduceLeDiff, Nat.reduceMod, Nat.reduceDiv, Nat.reducePow, Nat.reduceBEq, Int.reduceToNat, Int.reduceLE, Int.reduceLT, Int.reduceEq, Int.reduceAdd, Int.reduceMul, Int.reduceSub, Int.reduceNeg, Int.reduceNe, Tryd.TS, Tryd.ev_g0, Tryd.ev1_g0, Tryd.ev_g1, Tryd.ev1_g1, h8]
  refine SCall.mono (p4) ?_; rintro rs rfl
  simp -dsimp -implicitDefEqProofs (disch := omega) only [↓gpre, ↓bldS, ↓bld, ↓reduceIte, ↓gmore, gpost, gall, keepT, den, del, upd, dels, refs, hasTy, sArgs, aRefs, rvs, nodupB, memB, app, pTm, Ty.bytes, kbytes, Ty.zeroD, Ty.size, Ty.cmp, Ty.depth, Go.SE.look, reduceCtorEq, Nat.reduceAdd, Nat.reduceSub, Nat.reduceMul, Nat.reduceEqDiff, Nat.reduceLT, Nat.reduceLeDiff, Nat.reduceMod, Nat.reduceDiv, Nat.reducePow, Nat.reduceBEq, Int.reduceToNat, Int.reduceLE, Int.reduceLT, Int.reduceEq, Int.reduceAdd, Int.reduceMul, Int.reduceSub, Int.reduceNeg, Int.reduceNe, Tryd.TS, Tryd.ev_g0, Tryd.ev1_g0, Tryd.ev_g1, Tryd.ev1_g1, rep4, u1]
  refine SCall.mono (p5) ?_; rintro rs rfl
  simp -dsimp -implicitDefEqProofs (disch := omega) only [↓gpre, ↓bldS, ↓bld, ↓reduceIte, ↓gmore, gpost, gall, keepT, den, del, upd, dels, refs, hasTy, sArgs, aRefs, rvs, nodupB, memB, app, pTm, Ty.bytes, kbytes, Ty.zeroD, Ty.size, Ty.cmp, Ty.depth, Go.SE.look, reduceCtorEq, Nat.reduceAdd, Nat.reduceSub, Nat.reduceMul, Nat.reduceEqDiff, Nat.reduceLT, Nat.reduceLeDiff, Nat.reduceMod, Nat.reduceDiv, Nat.reducePow, Nat.reduceBEq, Int.reduceToNat, Int.reduceLE, Int.reduceLT, Int.reduceEq, Int.reduceAdd, Int.reduceMul, Int.reduceSub, Int.reduceNeg, Int.reduceNe, Tryd.TS, Tryd.ev_g0, Tryd.ev1_g0, Tryd.ev_g1, Tryd.ev1_g1]
end Go.Proofs
/- Signatures: the law's text. -/
namespace Go.Proofs
open Go.SE

theorem secB_zero {s : Nat} (h : s < 57896044618658097711785492504343953926634992332820282019728792003956564801911) (hs : secB s = false) : s = 0 := by
  unfold secB at hs
  rw [decide_eq_true h, Bool.and_true] at hs
  exact Decidable.byContradiction fun k => by rw [decide_eq_true k] at hs; cases hs
theorem verB_ch {q x : Nat} {m : List D} {c z : Nat} (h : verB q x m c z = true) : c = chal (4 ^ z % 115792089237316195423570985008687907853269984665640564039457584007913129603823 * (x ^ ngq c % 115792089237316195423570985008687907853269984665640564039457584007913129603823) % 115792089237316195423570985008687907853269984665640564039457584007913129603823) x m := by
  unfold verB at h
  rw [Bool.and_eq_true, Bool.and_eq_true, Bool.and_eq_true] at h
  exact of_decide_eq_true h.2.2.2
theorem w1 (t : Nat) (ht : t < 18446744073709551616) : D.l [.n (t : Int), .n 0, .n 0, .n 0] = u256 t :=
  u256_mk (a := t) (b := 0) (c := 0) (d := 0) ht (by omega) (by omega) (by omega) (by omega)

set_option maxHeartbeats 4000000 in
set_option maxRecDepth 100000 in
theorem signRight (d m : List D) (t q : Nat) (hd : BY d) (hdl : d.length = 32) (hm : BY m) (hml : m.length = 32) (ht : t < 18446744073709551616) (hq : q = 57896044618658097711785492504343953926634992332820282019728792003956564801911) :
    SCall Tryd.prog 4 [(.arr 32 (.int .u8), .l d), (.arr 32 (.int .u8), .l m), (.int .u64, .n t)] (fun rs => rs = [.d .bool (.b true)]) := by
  have c1 := gscalarRef d hd hdl
  have hsQ : fb d % 57896044618658097711785492504343953926634992332820282019728792003956564801911 < 57896044618658097711785492504343953926634992332820282019728792003956564801911 := Nat.mod_lt _ (by omega)
  generalize fb d % 57896044618658097711785492504343953926634992332820282019728792003956564801911 = s at *
  have hsM : s < 115792089237316195423570985008687907853269984665640564039457584007913129639936 := by omega
  have c2 := spublic s hsM
  have c3 := ssign s m hsM hm hml
  have hw := w1 t ht
  refine scall_intro (n := 89) (rl := [.tmp 6]) (us := [4]) Tryd.hT Tryd.func4 rfl rfl rfl rfl rfl (Nat.le_of_ble_eq_true rfl) ?_
  intro w0
  rcases hs : secB s with _ | _
  · have h0 := secB_zero hsQ hs
    subst h0
    rw [hs] at c3
    rw [show pubE 0 = 60 by unfold pubE; rw [hs]; rfl] at c2 c3
    rw [if_neg (by simp)] at c3
    simp -dsimp -implicitDefEqProofs (disch := omega) only [↓gpre, ↓bldS, ↓bld, ↓reduceIte, ↓gmore, gpost, gall, keepT, den, del, upd, dels, refs, hasTy, sArgs, aRefs, rvs, nodupB, memB, app, pTm, Ty.bytes, kbytes, Ty.zeroD, Ty.size, Ty.cmp, Ty.depth, Go.SE.look, reduceCtorEq, Nat.reduceAdd, Nat.reduceSub, Nat.reduceMul, Nat.reduceEqDiff, Nat.reduceLT, Nat.reduceLeDiff, Nat.reduceMod, Nat.reduceDiv, Nat.reducePow, Nat.reduceBEq, Int.reduceToNat, Int.reduceLE, Int.reduceLT, Int.reduceEq, Int.reduceAdd, Int.reduceMul, Int.reduceSub, Int.reduceNeg, Int.reduceNe, Tryd.TS, Tryd.ev_g0, Tryd.ev1_g0, Tryd.ev_g1, Tryd.ev1_g1, rep4]
    refine SCall.mono (c1) ?_; rintro rs rfl
    simp -dsimp -implicitDefEqProofs (disch := omega) only [↓gpre, ↓bldS, ↓bld, ↓reduceIte, ↓gmore, gpost, gall, keepT, den, del, upd, dels, refs, hasTy, sArgs, aRefs, rvs, nodupB, memB, app, pTm, Ty.bytes, kbytes, Ty.zeroD, Ty.size, Ty.cmp, Ty.depth, Go.SE.look, reduceCtorEq, Nat.reduceAdd, Nat.reduceSub, Nat.reduceMul, Nat.reduceEqDiff, Nat.reduceLT, Nat.reduceLeDiff, Nat.reduceMod, Nat.reduceDiv, Nat.reducePow, Nat.reduceBEq, Int.reduceToNat, Int.reduceLE, Int.reduceLT, Int.reduceEq, Int.reduceAdd, Int.reduceMul, Int.reduceSub, Int.reduceNeg, Int.reduceNe, Tryd.TS, Tryd.ev_g0, Tryd.ev1_g0, Tryd.ev_g1, Tryd.ev1_g1, rep4]
    refine SCall.mono (c2) ?_; rintro rs rfl
    simp -dsimp -implicitDefEqProofs (disch := omega) only [↓gpre, ↓bldS, ↓bld, ↓reduceIte, ↓gmore, gpost, gall, keepT, den, del, upd, dels, refs, hasTy, sArgs, aRefs, rvs, nodupB, memB, app, pTm, Ty.bytes, kbytes, Ty.zeroD, Ty.size, Ty.cmp, Ty.depth, Go.SE.look, reduceCtorEq, Nat.reduceAdd, Nat.reduceSub, Nat.reduceMul, Nat.reduceEqDiff, Nat.reduceLT, Nat.reduceLeDiff, Nat.reduceMod, Nat.reduceDiv, Nat.reducePow, Nat.reduceBEq, Int.reduceToNat, Int.reduceLE, Int.reduceLT, Int.reduceEq, Int.reduceAdd, Int.reduceMul, Int.reduceSub, Int.reduceNeg, Int.reduceNe, Tryd.TS, Tryd.ev_g0, Tryd.ev1_g0, Tryd.ev_g1, Tryd.ev1_g1, rep4]
    refine SCall.mono (c3) ?_; rintro rs rfl
    simp -dsimp -implicitDefEqProofs (disch := omega) only [↓gpre, ↓bldS, ↓bld, ↓reduceIte, ↓gmore, gpost, gall, keepT, den, del, upd, dels, refs, hasTy, sArgs, aRefs, rvs, nodupB, memB, app, pTm, Ty.bytes, kbytes, Ty.zeroD, Ty.size, Ty.cmp, Ty.depth, Go.SE.look, reduceCtorEq, Nat.reduceAdd, Nat.reduceSub, Nat.reduceMul, Nat.reduceEqDiff, Nat.reduceLT, Nat.reduceLeDiff, Nat.reduceMod, Nat.reduceDiv, Nat.reducePow, Nat.reduceBEq, Int.reduceToNat, Int.reduceLE, Int.reduceLT, Int.reduceEq, Int.reduceAdd, Int.reduceMul, Int.reduceSub, Int.reduceNeg, Int.reduceNe, Tryd.TS, Tryd.ev_g0, Tryd.ev1_g0, Tryd.ev_g1, Tryd.ev1_g1, rep4]
    refine SCall.mono (gsane6 q hq) ?_; rintro rs rfl
    simp -dsimp -implicitDefEqProofs (disch := omega) only [↓gpre, ↓bldS, ↓bld, ↓reduceIte, ↓gmore, gpost, gall, keepT, den, del, upd, dels, refs, hasTy, sArgs, aRefs, rvs, nodupB, memB, app, pTm, Ty.bytes, kbytes, Ty.zeroD, Ty.size, Ty.cmp, Ty.depth, Go.SE.look, reduceCtorEq, Nat.reduceAdd, Nat.reduceSub, Nat.reduceMul, Nat.reduceEqDiff, Nat.reduceLT, Nat.reduceLeDiff, Nat.reduceMod, Nat.reduceDiv, Nat.reducePow, Nat.reduceBEq, Int.reduceToNat, Int.reduceLE, Int.reduceLT, Int.reduceEq, Int.reduceAdd, Int.reduceMul, Int.reduceSub, Int.reduceNeg, Int.reduceNe, Tryd.TS, Tryd.ev_g0, Tryd.ev1_g0, Tryd.ev_g1, Tryd.ev1_g1, rep4, u256_zero, u256_inj (show 0 < 115792089237316195423570985008687907853269984665640564039457584007913129639936 by omega) (show 0 < 115792089237316195423570985008687907853269984665640564039457584007913129639936 by omega)]
  · have hv := val_pub hq hs
    have hver := ver_sig m hq hs
    have hcom := @com_ne q s (sigC s m) (sigR s m) ((sigR s m + t) % 57896044618658097711785492504343953926634992332820282019728792003956564801911) hq hs (sigR_lt s m) (Nat.mod_lt _ (by omega))
    have hX := pubN_lt s
    have hC : sigC s m < 115792089237316195423570985008687907853269984665640564039457584007913129639936 := Nat.lt_trans (sigC_lt s m) (by omega)
    have hR : sigR s m < 115792089237316195423570985008687907853269984665640564039457584007913129639936 := Nat.lt_trans (sigR_lt s m) (by omega)
    have hR2 : (sigR s m + t) % 57896044618658097711785492504343953926634992332820282019728792003956564801911 < 115792089237316195423570985008687907853269984665640564039457584007913129639936 := Nat.lt_trans (Nat.mod_lt _ (by omega)) (by omega)
    have c4 := gaddScalarRef (sigR s m) t hR (by omega)
    have c5 := svalid (pubN s) q hX hq
    have c6 := sverify (pubN s) q (sigC s m) (sigR s m) m hX hC hR hm hml hq
    have c7 := sverify (pubN s) q (sigC s m) ((sigR s m + t) % 57896044618658097711785492504343953926634992332820282019728792003956564801911) m hX hC hR2 hm hml hq
    have c8 := scommit (pubN s) (sigC s m) (sigR s m) hX hC hR
    have c9' := scommit (pubN s) (sigC s m) ((sigR s m + t) % 57896044618658097711785492504343953926634992332820282019728792003956564801911) hX hC hR2
    rw [hver] at c6
    rw [hv] at c5
    rw [hs, if_pos rfl] at c3
    rw [show pubE s = 0 by unfold pubE; rw [hs]; rfl] at c2 c3
    have hch1 := verB_ch hver
    have hch2 := @verB_ch q (pubN s) m (sigC s m) ((sigR s m + t) % 57896044618658097711785492504343953926634992332820282019728792003956564801911)
    clear hver
    generalize verB q (pubN s) m (sigC s m) ((sigR s m + t) % 57896044618658097711785492504343953926634992332820282019728792003956564801911) = v at *
    generalize (sigR s m + t) % 57896044618658097711785492504343953926634992332820282019728792003956564801911 = z2 at *
    generalize sigR s m = z at *
    generalize sigC s m = c at *
    generalize pubN s = x at *
    have l1 : 4 ^ z % 115792089237316195423570985008687907853269984665640564039457584007913129603823 * (x ^ ngq c % 115792089237316195423570985008687907853269984665640564039457584007913129603823) % 115792089237316195423570985008687907853269984665640564039457584007913129603823 < 115792089237316195423570985008687907853269984665640564039457584007913129639936 := Nat.lt_trans (Nat.mod_lt _ (by omega)) (show 115792089237316195423570985008687907853269984665640564039457584007913129603823 < 115792089237316195423570985008687907853269984665640564039457584007913129639936 by omega)
    have l2 : 4 ^ z2 % 115792089237316195423570985008687907853269984665640564039457584007913129603823 * (x ^ ngq c % 115792089237316195423570985008687907853269984665640564039457584007913129603823) % 115792089237316195423570985008687907853269984665640564039457584007913129603823 < 115792089237316195423570985008687907853269984665640564039457584007913129639936 := Nat.lt_trans (Nat.mod_lt _ (by omega)) (show 115792089237316195423570985008687907853269984665640564039457584007913129603823 < 115792089237316195423570985008687907853269984665640564039457584007913129639936 by omega)
    generalize 4 ^ z % 115792089237316195423570985008687907853269984665640564039457584007913129603823 * (x ^ ngq c % 115792089237316195423570985008687907853269984665640564039457584007913129603823) % 115792089237316195423570985008687907853269984665640564039457584007913129603823 = r1 at *
    generalize 4 ^ z2 % 115792089237316195423570985008687907853269984665640564039457584007913129603823 * (x ^ ngq c % 115792089237316195423570985008687907853269984665640564039457584007913129603823) % 115792089237316195423570985008687907853269984665640564039457584007913129603823 = r2 at *
    simp -dsimp -implicitDefEqProofs (disch := omega) only [↓gpre, ↓bldS, ↓bld, ↓reduceIte, ↓gmore, gpost, gall, keepT, den, del, upd, dels, refs, hasTy, sArgs, aRefs, rvs, nodupB, memB, app, pTm, Ty.bytes, kbytes, Ty.zeroD, Ty.size, Ty.cmp, Ty.depth, Go.SE.look, reduceCtorEq, Nat.reduceAdd, Nat.reduceSub, Nat.reduceMul, Nat.reduceEqDiff, Nat.reduceLT, Nat.reduceLeDiff, Nat.reduceMod, Nat.reduceDiv, Nat.reducePow, Nat.reduceBEq, Int.reduceToNat, Int.reduceLE, Int.reduceLT, Int.reduceEq, Int.reduceAdd, Int.reduceMul, Int.reduceSub, Int.reduceNeg, Int.reduceNe, Tryd.TS, Tryd.ev_g0, Tryd.ev1_g0, Tryd.ev_g1, Tryd.ev1_g1, rep4]
    refine SCall.mono (c1) ?_; rintro rs rfl
    simp -dsimp -implicitDefEqProofs (disch := omega) only [↓gpre, ↓bldS, ↓bld, ↓reduceIte, ↓gmore, gpost, gall, keepT, den, del, upd, dels, refs, hasTy, sArgs, aRefs, rvs, nodupB, memB, app, pTm, Ty.bytes, kbytes, Ty.zeroD, Ty.size, Ty.cmp, Ty.depth, Go.SE.look, reduceCtorEq, Nat.reduceAdd, Nat.reduceSub, Nat.reduceMul, Nat.reduceEqDiff, Nat.reduceLT, Nat.reduceLeDiff, Nat.reduceMod, Nat.reduceDiv, Nat.reducePow, Nat.reduceBEq, Int.reduceToNat, Int.reduceLE, Int.reduceLT, Int.reduceEq, Int.reduceAdd, Int.reduceMul, Int.reduceSub, Int.reduceNeg, Int.reduceNe, Tryd.TS, Tryd.ev_g0, Tryd.ev1_g0, Tryd.ev_g1, Tryd.ev1_g1, rep4]
    refine SCall.mono (c2) ?_; rintro rs rfl
    simp -dsimp -implicitDefEqProofs (disch := omega) only [↓gpre, ↓bldS, ↓bld, ↓reduceIte, ↓gmore, gpost, gall, keepT, den, del, upd, dels, refs, hasTy, sArgs, aRefs, rvs, nodupB, memB, app, pTm, Ty.bytes, kbytes, Ty.zeroD, Ty.size, Ty.cmp, Ty.depth, Go.SE.look, reduceCtorEq, Nat.reduceAdd, Nat.reduceSub, Nat.reduceMul, Nat.reduceEqDiff, Nat.reduceLT, Nat.reduceLeDiff, Nat.reduceMod, Nat.reduceDiv, Nat.reducePow, Nat.reduceBEq, Int.reduceToNat, Int.reduceLE, Int.reduceLT, Int.reduceEq, Int.reduceAdd, Int.reduceMul, Int.reduceSub, Int.reduceNeg, Int.reduceNe, Tryd.TS, Tryd.ev_g0, Tryd.ev1_g0, Tryd.ev_g1, Tryd.ev1_g1, rep4]
    refine SCall.mono (c3) ?_; rintro rs rfl
    simp -dsimp -implicitDefEqProofs (disch := omega) only [↓gpre, ↓bldS, ↓bld, ↓reduceIte, ↓gmore, gpost, gall, keepT, den, del, upd, dels, refs, hasTy, sArgs, aRefs, rvs, nodupB, memB, app, pTm, Ty.bytes, kbytes, Ty.zeroD, Ty.size, Ty.cmp, Ty.depth, Go.SE.look, reduceCtorEq, Nat.reduceAdd, Nat.reduceSub, Nat.reduceMul, Nat.reduceEqDiff, Nat.reduceLT, Nat.reduceLeDiff, Nat.reduceMod, Nat.reduceDiv, Nat.reducePow, Nat.reduceBEq, Int.reduceToNat, Int.reduceLE, Int.reduceLT, Int.reduceEq, Int.reduceAdd, Int.reduceMul, Int.reduceSub, Int.reduceNeg, Int.reduceNe, Tryd.TS, Tryd.ev_g0, Tryd.ev1_g0, Tryd.ev_g1, Tryd.ev1_g1, rep4]
    refine SCall.mono (gsane6 q hq) ?_; rintro rs rfl
    simp -dsimp -implicitDefEqProofs (disch := omega) only [↓gpre, ↓bldS, ↓bld, ↓reduceIte, ↓gmore, gpost, gall, keepT, den, del, upd, dels, refs, hasTy, sArgs, aRefs, rvs, nodupB, memB, app, pTm, Ty.bytes, kbytes, Ty.zeroD, Ty.size, Ty.cmp, Ty.depth, Go.SE.look, reduceCtorEq, Nat.reduceAdd, Nat.reduceSub, Nat.reduceMul, Nat.reduceEqDiff, Nat.reduceLT, Nat.reduceLeDiff, Nat.reduceMod, Nat.reduceDiv, Nat.reducePow, Nat.reduceBEq, Int.reduceToNat, Int.reduceLE, Int.reduceLT, Int.reduceEq, Int.reduceAdd, Int.reduceMul, Int.reduceSub, Int.reduceNeg, Int.reduceNe, Tryd.TS, Tryd.ev_g0, Tryd.ev1_g0, Tryd.ev_g1, Tryd.ev1_g1, rep4, hw]
    refine SCall.mono (c4) ?_; rintro rs rfl
    simp -dsimp -implicitDefEqProofs (disch := omega) only [↓gpre, ↓bldS, ↓bld, ↓reduceIte, ↓gmore, gpost, gall, keepT, den, del, upd, dels, refs, hasTy, sArgs, aRefs, rvs, nodupB, memB, app, pTm, Ty.bytes, kbytes, Ty.zeroD, Ty.size, Ty.cmp, Ty.depth, Go.SE.look, reduceCtorEq, Nat.reduceAdd, Nat.reduceSub, Nat.reduceMul, Nat.reduceEqDiff, Nat.reduceLT, Nat.reduceLeDiff, Nat.reduceMod, Nat.reduceDiv, Nat.reducePow, Nat.reduceBEq, Int.reduceToNat, Int.reduceLE, Int.reduceLT, Int.reduceEq, Int.reduceAdd, Int.reduceMul, Int.reduceSub, Int.reduceNeg, Int.reduceNe, Tryd.TS, Tryd.ev_g0, Tryd.ev1_g0, Tryd.ev_g1, Tryd.ev1_g1, rep4, set_sg0, set_sg1]
    refine SCall.mono (c5) ?_; rintro rs rfl
    simp -dsimp -implicitDefEqProofs (disch := omega) only [↓gpre, ↓bldS, ↓bld, ↓reduceIte, ↓gmore, gpost, gall, keepT, den, del, upd, dels, refs, hasTy, sArgs, aRefs, rvs, nodupB, memB, app, pTm, Ty.bytes, kbytes, Ty.zeroD, Ty.size, Ty.cmp, Ty.depth, Go.SE.look, reduceCtorEq, Nat.reduceAdd, Nat.reduceSub, Nat.reduceMul, Nat.reduceEqDiff, Nat.reduceLT, Nat.reduceLeDiff, Nat.reduceMod, Nat.reduceDiv, Nat.reducePow, Nat.reduceBEq, Int.reduceToNat, Int.reduceLE, Int.reduceLT, Int.reduceEq, Int.reduceAdd, Int.reduceMul, Int.reduceSub, Int.reduceNeg, Int.reduceNe, Tryd.TS, Tryd.ev_g0, Tryd.ev1_g0, Tryd.ev_g1, Tryd.ev1_g1]
    refine SCall.mono (c6) ?_; rintro rs rfl
    simp -dsimp -implicitDefEqProofs (disch := omega) only [↓gpre, ↓bldS, ↓bld, ↓reduceIte, ↓gmore, gpost, gall, keepT, den, del, upd, dels, refs, hasTy, sArgs, aRefs, rvs, nodupB, memB, app, pTm, Ty.bytes, kbytes, Ty.zeroD, Ty.size, Ty.cmp, Ty.depth, Go.SE.look, reduceCtorEq, Nat.reduceAdd, Nat.reduceSub, Nat.reduceMul, Nat.reduceEqDiff, Nat.reduceLT, Nat.reduceLeDiff, Nat.reduceMod, Nat.reduceDiv, Nat.reducePow, Nat.reduceBEq, Int.reduceToNat, Int.reduceLE, Int.reduceLT, Int.reduceEq, Int.reduceAdd, Int.reduceMul, Int.reduceSub, Int.reduceNeg, Int.reduceNe, Tryd.TS, Tryd.ev_g0, Tryd.ev1_g0, Tryd.ev_g1, Tryd.ev1_g1, u256_inj hR2 hR]
    refine HIf_dec (a := ()) (b := ()) (fun h1 => ?_) (fun h1 => ?_)
    · simp -dsimp -implicitDefEqProofs (disch := omega) only [↓gpre, ↓bldS, ↓bld, ↓reduceIte, ↓gmore, gpost, gall, keepT, den, del, upd, dels, refs, hasTy, sArgs, aRefs, rvs, nodupB, memB, app, pTm, Ty.bytes, kbytes, Ty.zeroD, Ty.size, Ty.cmp, Ty.depth, Go.SE.look, reduceCtorEq, Nat.reduceAdd, Nat.reduceSub, Nat.reduceMul, Nat.reduceEqDiff, Nat.reduceLT, Nat.reduceLeDiff, Nat.reduceMod, Nat.reduceDiv, Nat.reducePow, Nat.reduceBEq, Int.reduceToNat, Int.reduceLE, Int.reduceLT, Int.reduceEq, Int.reduceAdd, Int.reduceMul, Int.reduceSub, Int.reduceNeg, Int.reduceNe, Tryd.TS, Tryd.ev_g0, Tryd.ev1_g0, Tryd.ev_g1, Tryd.ev1_g1]
    simp -dsimp -implicitDefEqProofs (disch := omega) only [↓gpre, ↓bldS, ↓bld, ↓reduceIte, ↓gmore, gpost, gall, keepT, den, del, upd, dels, refs, hasTy, sArgs, aRefs, rvs, nodupB, memB, app, pTm, Ty.bytes, kbytes, Ty.zeroD, Ty.size, Ty.cmp, Ty.depth, Go.SE.look, reduceCtorEq, Nat.reduceAdd, Nat.reduceSub, Nat.reduceMul, Nat.reduceEqDiff, Nat.reduceLT, Nat.reduceLeDiff, Nat.reduceMod, Nat.reduceDiv, Nat.reducePow, Nat.reduceBEq, Int.reduceToNat, Int.reduceLE, Int.reduceLT, Int.reduceEq, Int.reduceAdd, Int.reduceMul, Int.reduceSub, Int.reduceNeg, Int.reduceNe, Tryd.TS, Tryd.ev_g0, Tryd.ev1_g0, Tryd.ev_g1, Tryd.ev1_g1]
    rcases v with _ | _
    · refine SCall.mono (c7) ?_; rintro rs rfl
      simp -dsimp -implicitDefEqProofs (disch := omega) only [↓gpre, ↓bldS, ↓bld, ↓reduceIte, ↓gmore, gpost, gall, keepT, den, del, upd, dels, refs, hasTy, sArgs, aRefs, rvs, nodupB, memB, app, pTm, Ty.bytes, kbytes, Ty.zeroD, Ty.size, Ty.cmp, Ty.depth, Go.SE.look, reduceCtorEq, Nat.reduceAdd, Nat.reduceSub, Nat.reduceMul, Nat.reduceEqDiff, Nat.reduceLT, Nat.reduceLeDiff, Nat.reduceMod, Nat.reduceDiv, Nat.reducePow, Nat.reduceBEq, Int.reduceToNat, Int.reduceLE, Int.reduceLT, Int.reduceEq, Int.reduceAdd, Int.reduceMul, Int.reduceSub, Int.reduceNeg, Int.reduceNe, Tryd.TS, Tryd.ev_g0, Tryd.ev1_g0, Tryd.ev_g1, Tryd.ev1_g1]
    have hch3 := hch2 rfl
    clear hch2
    refine SCall.mono (c7) ?_; rintro rs rfl
    simp -dsimp -implicitDefEqProofs (disch := omega) only [↓gpre, ↓bldS, ↓bld, ↓reduceIte, ↓gmore, gpost, gall, keepT, den, del, upd, dels, refs, hasTy, sArgs, aRefs, rvs, nodupB, memB, app, pTm, Ty.bytes, kbytes, Ty.zeroD, Ty.size, Ty.cmp, Ty.depth, Go.SE.look, reduceCtorEq, Nat.reduceAdd, Nat.reduceSub, Nat.reduceMul, Nat.reduceEqDiff, Nat.reduceLT, Nat.reduceLeDiff, Nat.reduceMod, Nat.reduceDiv, Nat.reducePow, Nat.reduceBEq, Int.reduceToNat, Int.reduceLE, Int.reduceLT, Int.reduceEq, Int.reduceAdd, Int.reduceMul, Int.reduceSub, Int.reduceNeg, Int.reduceNe, Tryd.TS, Tryd.ev_g0, Tryd.ev1_g0, Tryd.ev_g1, Tryd.ev1_g1]
    have hne : r1 ≠ r2 := fun k => h1 (by rw [hcom k])
    have k1 := schallenge r1 x m l1 hX hm hml
    have k2 := schallenge r2 x m l2 hX hm hml
    rw [← hch1] at k1
    rw [← hch3] at k2
    refine sdrawM Tryd.hT (by kernel_rfl) [8, 9] (.alt 0 (.alt 1 (.alt 3 (.alt 4 (.alt 2 (.alt 5 (.alt 6 (.alt 7 (.alt 8 (.alt 9 .nil .nil) .nil) .nil) (.alt 7 (.alt 6 (.alt 8 (.alt 9 .nil .nil) .nil) .nil) .nil)) (.alt 6 (.alt 5 (.alt 7 (.alt 8 (.alt 9 .nil .nil) .nil) .nil) (.alt 7 (.alt 5 (.alt 8 (.alt 9 .nil .nil) .nil) .nil) .nil)) (.alt 7 (.alt 5 (.alt 6 (.alt 8 (.alt 9 .nil .nil) .nil) .nil) (.alt 6 (.alt 5 (.alt 8 (.alt 9 .nil .nil) .nil) .nil) .nil)) .nil))) (.alt 6 (.alt 2 (.alt 5 (.alt 7 (.alt 8 (.alt 9 .nil .nil) .nil) .nil) (.alt 7 (.alt 5 (.alt 8 (.alt 9 .nil .nil) .nil) .nil) .nil)) (.alt 7 (.alt 2 (.alt 5 (.alt 8 (.alt 9 .nil .nil) .nil) .nil) .nil) .nil)) (.alt 7 (.alt 2 (.alt 5 (.alt 6 (.alt 8 (.alt 9 .nil .nil) .nil) .nil) (.alt 6 (.alt 5 (.alt 8 (.alt 9 .nil .nil) .nil) .nil) .nil)) (.alt 6 (.alt 2 (.alt 5 (.alt 8 (.alt 9 .nil .nil) .nil) .nil) .nil) .nil)) .nil))) .nil) .nil) .nil) .nil) ⟨89, [(4, .v (.ptr 1 [])), (6, .v (.d .bool (.b false))), (8, .v (.ptr 6 [])), (13, .v (.ptr 16 [])), (14, .v (.ptr 17 []))], [(1, ⟨.arr 32 (.int .u8), .d (.arr 32 (.int .u8)) (.l m)⟩), (6, ⟨.arr 4 (.int .u64), .d (.arr 4 (.int .u64)) (u256 x)⟩), (16, ⟨.arr 4 (.int .u64), .d (.arr 4 (.int .u64)) (u256 r1)⟩), (17, ⟨.arr 4 (.int .u64), .d (.arr 4 (.int .u64)) (u256 r2)⟩)], 18⟩ (by kernel_rfl) (by kernel_rfl) ?_ ?_
    · simp only [tr_alt, tr_nil, tr_nil', pickO, List.getElem?_toArray, List.getElem?_cons_zero, List.getElem?_cons_succ]
      simp -dsimp -implicitDefEqProofs (disch := omega) only [↓gpre, ↓bldS, ↓bld, ↓reduceIte, ↓gmore, gpost, gall, keepT, den, del, upd, dels, refs, hasTy, sArgs, aRefs, rvs, nodupB, memB, app, pTm, Ty.bytes, kbytes, Ty.zeroD, Ty.size, Ty.cmp, Ty.depth, Go.SE.look, reduceCtorEq, Nat.reduceAdd, Nat.reduceSub, Nat.reduceMul, Nat.reduceEqDiff, Nat.reduceLT, Nat.reduceLeDiff, Nat.reduceMod, Nat.reduceDiv, Nat.reducePow, Nat.reduceBEq, Int.reduceToNat, Int.reduceLE, Int.reduceLT, Int.reduceEq, Int.reduceAdd, Int.reduceMul, Int.reduceSub, Int.reduceNeg, Int.reduceNe, Tryd.TS, Tryd.ev_g0, Tryd.ev1_g0, Tryd.ev_g1, Tryd.ev1_g1, rep4]
      repeat' (first
        | with_reducible refine And.intro ?_ ?_
        | (with_reducible refine HCall_mono (c8) ?_; rintro rs rfl
           simp -dsimp -implicitDefEqProofs (disch := omega) only [↓gpre, ↓bldS, ↓bld, ↓reduceIte, ↓gmore, gpost, gall, keepT, den, del, upd, dels, refs, hasTy, sArgs, aRefs, rvs, nodupB, memB, app, pTm, Ty.bytes, kbytes, Ty.zeroD, Ty.size, Ty.cmp, Ty.depth, Go.SE.look, reduceCtorEq, Nat.reduceAdd, Nat.reduceSub, Nat.reduceMul, Nat.reduceEqDiff, Nat.reduceLT, Nat.reduceLeDiff, Nat.reduceMod, Nat.reduceDiv, Nat.reducePow, Nat.reduceBEq, Int.reduceToNat, Int.reduceLE, Int.reduceLT, Int.reduceEq, Int.reduceAdd, Int.reduceMul, Int.reduceSub, Int.reduceNeg, Int.reduceNe, Tryd.TS, Tryd.ev_g0, Tryd.ev1_g0, Tryd.ev_g1, Tryd.ev1_g1, rep4])
        | (with_reducible refine HCall_mono (c9') ?_; rintro rs rfl
           simp -dsimp -implicitDefEqProofs (disch := omega) only [↓gpre, ↓bldS, ↓bld, ↓reduceIte, ↓gmore, gpost, gall, keepT, den, del, upd, dels, refs, hasTy, sArgs, aRefs, rvs, nodupB, memB, app, pTm, Ty.bytes, kbytes, Ty.zeroD, Ty.size, Ty.cmp, Ty.depth, Go.SE.look, reduceCtorEq, Nat.reduceAdd, Nat.reduceSub, Nat.reduceMul, Nat.reduceEqDiff, Nat.reduceLT, Nat.reduceLeDiff, Nat.reduceMod, Nat.reduceDiv, Nat.reducePow, Nat.reduceBEq, Int.reduceToNat, Int.reduceLE, Int.reduceLT, Int.reduceEq, Int.reduceAdd, Int.reduceMul, Int.reduceSub, Int.reduceNeg, Int.reduceNe, Tryd.TS, Tryd.ev_g0, Tryd.ev1_g0, Tryd.ev_g1, Tryd.ev1_g1, rep4])
        | with_reducible exact True.intro
        | (first | (refine sub_ren w0 [(0, 0), (1, 1), (2, 2), (3, 3), (4, 4), (5, 5), (6, 6), (7, 7), (8, 8), (9, 9), (10, 10), (11, 11), (12, 12), (13, 13), (14, 14), (15, 15), (16, 18), (17, 19)] rfl ?_ rfl ?_ ?_; (focus (simp [keysLt]; done)); (focus (simp [renTm, Go.SE.look, renTV, renSV]; done)); (focus (simp [renOb, Go.SE.look, renSV]; done))) | (refine sub_ren w0 [(0, 0), (1, 1), (2, 2), (3, 3), (4, 4), (5, 5), (6, 6), (7, 7), (8, 8), (9, 9), (10, 10), (11, 11), (12, 12), (13, 13), (14, 14), (15, 15), (16, 19), (17, 18)] rfl ?_ rfl ?_ ?_; (focus (simp [keysLt]; done)); (focus (simp [renTm, Go.SE.look, renTV, renSV]; done)); (focus (simp [renOb, Go.SE.look, renSV]; done))) | (refine sub_ren w0 [(0, 0), (1, 1), (2, 2), (3, 3), (4, 4), (5, 5), (6, 6), (7, 7), (8, 8), (9, 9), (10, 10), (11, 11), (12, 12), (13, 13), (14, 14), (15, 15), (16, 17), (17, 19)] rfl ?_ rfl ?_ ?_; (focus (simp [keysLt]; done)); (focus (simp [renTm, Go.SE.look, renTV, renSV]; done)); (focus (simp [renOb, Go.SE.look, renSV]; done))) | (refine sub_ren w0 [(0, 0), (1, 1), (2, 2), (3, 3), (4, 4), (5, 5), (6, 6), (7, 7), (8, 8), (9, 9), (10, 10), (11, 11), (12, 12), (13, 13), (14, 14), (15, 15), (16, 17), (17, 18)] rfl ?_ rfl ?_ ?_; (focus (simp [keysLt]; done)); (focus (simp [renTm, Go.SE.look, renTV, renSV]; done)); (focus (simp [renOb, Go.SE.look, renSV]; done))) | (refine sub_ren w0 [(0, 0), (1, 1), (2, 2), (3, 3), (4, 4), (5, 5), (6, 6), (7, 7), (8, 8), (9, 9), (10, 10), (11, 11), (12, 12), (13, 13), (14, 14), (15, 15), (16, 19), (17, 17)] rfl ?_ rfl ?_ ?_; (focus (simp [keysLt]; done)); (focus (simp [renTm, Go.SE.look, renTV, renSV]; done)); (focus (simp [renOb, Go.SE.look, renSV]; done))) | (refine sub_ren w0 [(0, 0), (1, 1), (2, 2), (3, 3), (4, 4), (5, 5), (6, 6), (7, 7), (8, 8), (9, 9), (10, 10), (11, 11), (12, 12), (13, 13), (14, 14), (15, 15), (16, 18), (17, 17)] rfl ?_ rfl ?_ ?_; (focus (simp [keysLt]; done)); (focus (simp [renTm, Go.SE.look, renTV, renSV]; done)); (focus (simp [renOb, Go.SE.look, renSV]; done))) | (refine sub_ren w0 [(0, 0), (1, 1), (2, 2), (3, 3), (4, 4), (5, 5), (6, 6), (7, 7), (8, 8), (9, 9), (10, 10), (11, 11), (12, 12), (13, 13), (14, 14), (15, 15), (16, 16), (17, 19)] rfl ?_ rfl ?_ ?_; (focus (simp [keysLt]; done)); (focus (simp [renTm, Go.SE.look, renTV, renSV]; done)); (focus (simp [renOb, Go.SE.look, renSV]; done))) | (refine sub_ren w0 [(0, 0), (1, 1), (2, 2), (3, 3), (4, 4), (5, 5), (6, 6), (7, 7), (8, 8), (9, 9), (10, 10), (11, 11), (12, 12), (13, 13), (14, 14), (15, 15), (16, 16), (17, 18)] rfl ?_ rfl ?_ ?_; (focus (simp [keysLt]; done)); (focus (simp [renTm, Go.SE.look, renTV, renSV]; done)); (focus (simp [renOb, Go.SE.look, renSV]; done))) | (refine sub_ren w0 [(0, 0), (1, 1), (2, 2), (3, 3), (4, 4), (5, 5), (6, 6), (7, 7), (8, 8), (9, 9), (10, 10), (11, 11), (12, 12), (13, 13), (14, 14), (15, 15), (16, 16), (17, 17)] rfl ?_ rfl ?_ ?_; (focus (simp [keysLt]; done)); (focus (simp [renTm, Go.SE.look, renTV, renSV]; done)); (focus (simp [renOb, Go.SE.look, renSV]; done))) | (refine sub_ren w0 [(0, 0), (1, 1), (2, 2), (3, 3), (4, 4), (5, 5), (6, 6), (7, 7), (8, 8), (9, 9), (10, 10), (11, 11), (12, 12), (13, 13), (14, 14), (15, 15), (16, 19), (17, 16)] rfl ?_ rfl ?_ ?_; (focus (simp [keysLt]; done)); (focus (simp [renTm, Go.SE.look, renTV, renSV]; done)); (focus (simp [renOb, Go.SE.look, renSV]; done))) | (refine sub_ren w0 [(0, 0), (1, 1), (2, 2), (3, 3), (4, 4), (5, 5), (6, 6), (7, 7), (8, 8), (9, 9), (10, 10), (11, 11), (12, 12), (13, 13), (14, 14), (15, 15), (16, 18), (17, 16)] rfl ?_ rfl ?_ ?_; (focus (simp [keysLt]; done)); (focus (simp [renTm, Go.SE.look, renTV, renSV]; done)); (focus (simp [renOb, Go.SE.look, renSV]; done))) | (refine sub_ren w0 [(0, 0), (1, 1), (2, 2), (3, 3), (4, 4), (5, 5), (6, 6), (7, 7), (8, 8), (9, 9), (10, 10), (11, 11), (12, 12), (13, 13), (14, 14), (15, 15), (16, 17), (17, 16)] rfl ?_ rfl ?_ ?_; (focus (simp [keysLt]; done)); (focus (simp [renTm, Go.SE.look, renTV, renSV]; done)); (focus (simp [renOb, Go.SE.look, renSV]; done)))))
    simp -dsimp -implicitDefEqProofs (disch := omega) only [↓gpre, ↓bldS, ↓bld, ↓reduceIte, ↓gmore, gpost, gall, keepT, den, del, upd, dels, refs, hasTy, sArgs, aRefs, rvs, nodupB, memB, app, pTm, Ty.bytes, kbytes, Ty.zeroD, Ty.size, Ty.cmp, Ty.depth, Go.SE.look, reduceCtorEq, Nat.reduceAdd, Nat.reduceSub, Nat.reduceMul, Nat.reduceEqDiff, Nat.reduceLT, Nat.reduceLeDiff, Nat.reduceMod, Nat.reduceDiv, Nat.reducePow, Nat.reduceBEq, Int.reduceToNat, Int.reduceLE, Int.reduceLT, Int.reduceEq, Int.reduceAdd, Int.reduceMul, Int.reduceSub, Int.reduceNeg, Int.reduceNe, Tryd.TS, Tryd.ev_g0, Tryd.ev1_g0, Tryd.ev_g1, Tryd.ev1_g1]
    refine sdraw Tryd.hT (by kernel_rfl) [] [0, 1, 2, 3, 4, 5, 6, 8, 9, 10, 7, 11, 12, 13, 14] (by kernel_rfl) (by kernel_rfl) (by kernel_rfl) ?_; simp only [pickO, List.getElem?_toArray, List.getElem?_cons_zero, List.getElem?_cons_succ]
    simp -dsimp -implicitDefEqProofs (disch := omega) only [↓gpre, ↓bldS, ↓bld, ↓reduceIte, ↓gmore, gpost, gall, keepT, den, del, upd, dels, refs, hasTy, sArgs, aRefs, rvs, nodupB, memB, app, pTm, Ty.bytes, kbytes, Ty.zeroD, Ty.size, Ty.cmp, Ty.depth, Go.SE.look, reduceCtorEq, Nat.reduceAdd, Nat.reduceSub, Nat.reduceMul, Nat.reduceEqDiff, Nat.reduceLT, Nat.reduceLeDiff, Nat.reduceMod, Nat.reduceDiv, Nat.reducePow, Nat.reduceBEq, Int.reduceToNat, Int.reduceLE, Int.reduceLT, Int.reduceEq, Int.reduceAdd, Int.reduceMul, Int.reduceSub, Int.reduceNeg, Int.reduceNe, Tryd.TS, Tryd.ev_g0, Tryd.ev1_g0, Tryd.ev_g1, Tryd.ev1_g1, u256_inj l1 l2]
    refine HIf_ndec (a := ()) (b := ()) (fun h5 => ?_) (fun h5 => ?_)
    · simp -dsimp -implicitDefEqProofs (disch := omega) only [↓gpre, ↓bldS, ↓bld, ↓reduceIte, ↓gmore, gpost, gall, keepT, den, del, upd, dels, refs, hasTy, sArgs, aRefs, rvs, nodupB, memB, app, pTm, Ty.bytes, kbytes, Ty.zeroD, Ty.size, Ty.cmp, Ty.depth, Go.SE.look, reduceCtorEq, Nat.reduceAdd, Nat.reduceSub, Nat.reduceMul, Nat.reduceEqDiff, Nat.reduceLT, Nat.reduceLeDiff, Nat.reduceMod, Nat.reduceDiv, Nat.reducePow, Nat.reduceBEq, Int.reduceToNat, Int.reduceLE, Int.reduceLT, Int.reduceEq, Int.reduceAdd, Int.reduceMul, Int.reduceSub, Int.reduceNeg, Int.reduceNe, Tryd.TS, Tryd.ev_g0, Tryd.ev1_g0, Tryd.ev_g1, Tryd.ev1_g1]
      refine SCall.mono (k1) ?_; rintro rs rfl
      simp -dsimp -implicitDefEqProofs (disch := omega) only [↓gpre, ↓bldS, ↓bld, ↓reduceIte, ↓gmore, gpost, gall, keepT, den, del, upd, dels, refs, hasTy, sArgs, aRefs, rvs, nodupB, memB, app, pTm, Ty.bytes, kbytes, Ty.zeroD, Ty.size, Ty.cmp, Ty.depth, Go.SE.look, reduceCtorEq, Nat.reduceAdd, Nat.reduceSub, Nat.reduceMul, Nat.reduceEqDiff, Nat.reduceLT, Nat.reduceLeDiff, Nat.reduceMod, Nat.reduceDiv, Nat.reducePow, Nat.reduceBEq, Int.reduceToNat, Int.reduceLE, Int.reduceLT, Int.reduceEq, Int.reduceAdd, Int.reduceMul, Int.reduceSub, Int.reduceNeg, Int.reduceNe, Tryd.TS, Tryd.ev_g0, Tryd.ev1_g0, Tryd.ev_g1, Tryd.ev1_g1]
      refine SCall.mono (k2) ?_; rintro rs rfl
      simp -dsimp -implicitDefEqProofs (disch := omega) only [↓gpre, ↓bldS, ↓bld, ↓reduceIte, ↓gmore, gpost, gall, keepT, den, del, upd, dels, refs, hasTy, sArgs, aRefs, rvs, nodupB, memB, app, pTm, Ty.bytes, kbytes, Ty.zeroD, Ty.size, Ty.cmp, Ty.depth, Go.SE.look, reduceCtorEq, Nat.reduceAdd, Nat.reduceSub, Nat.reduceMul, Nat.reduceEqDiff, Nat.reduceLT, Nat.reduceLeDiff, Nat.reduceMod, Nat.reduceDiv, Nat.reducePow, Nat.reduceBEq, Int.reduceToNat, Int.reduceLE, Int.reduceLT, Int.reduceEq, Int.reduceAdd, Int.reduceMul, Int.reduceSub, Int.reduceNeg, Int.reduceNe, Tryd.TS, Tryd.ev_g0, Tryd.ev1_g0, Tryd.ev_g1, Tryd.ev1_g1]
    · exact absurd h5 hne
end Go.Proofs
/- The tables that a row lists: what they read as. -/
namespace Go.Proofs
open Go.SE

theorem rdl_tab {w : World} {S : Nat → Prop} (k : IntKind) : ∀ zs : List Int, ReadL (Rd w S (.int k)) (Ty.int k).size (zs.map fun z => Value.int k z) (zs.map D.n)
  | [] => rfl
  | z :: zs => ⟨⟨z, rfl, rfl⟩, rdl_tab k zs⟩
theorem cells_tab {P : Program} {W : World} {name : String} {k : IntKind} {zs : List Int} {g : Nat} (hg : P.globalNamed name = some g) (h : Lib.TabIs P W name k zs) :
    ∃ el fr, W.heap[g]? = some (.cells (zs.map fun z => Value.int k z).toArray el fr) := by
  unfold Lib.TabIs World.var? at h
  rw [hg] at h
  simp only [Option.bind_some] at h
  split at h
  · rename_i cs el fr hh
    cases h
    exact ⟨el, fr, hh⟩
  · cases h
theorem gok_one {W : World} {g : Nat} {k : IntKind} {zs : List Int} {el : TypeId} {fr : Nat × Nat} (h : W.heap[g]? = some (.cells (zs.map fun z => Value.int k z).toArray el fr)) :
    ∃ c el fr, W.heap[g]? = some (.cells c el fr) ∧ 0 + (Ty.arr zs.length (.int k)).size ≤ c.size ∧ Rd W (fun b => ¬ (fun _ : Nat => False) b) (.arr zs.length (.int k)) ((c.toList.drop 0).take (Ty.arr zs.length (.int k)).size) (il zs) := by
  refine ⟨_, _, _, h, by simp [Ty.size], ?_⟩
  have e : ((zs.map fun z => Value.int k z).toArray.toList.drop 0).take (Ty.arr zs.length (.int k)).size = zs.map fun z => Value.int k z := by
    simp only [List.drop_zero]
    exact List.take_of_length_le (by simp [Ty.size])
  rw [e]
  exact ⟨zs.map D.n, rfl, by simp, rdl_tab k zs⟩
theorem tab_vars {P : Program} {W : World} {name : String} {k : IntKind} {zs : List Int} {rest : List (String × DataW Unit)} {ps : List MemPlace} {g : Nat} {t e : TypeId} {n : Nat}
    (hg : P.globalNamed name = some g) (hty : (P.globals[g]?).map (·.type) = some t) (ht : P.underlying t = some (.array n e)) (he : P.underlying e = some (.int k)) (hce : P.cellsOf e = 1) (hct : P.cellsOf t = n)
    (h : DataW.LaidVars P W ((name, Lib.tabData k zs) :: rest) ps) : Lib.TabIs P W name k zs ∧ ∃ q, DataW.LaidVars P W rest q := by
  obtain ⟨g', t', cs, fuel, p, q, hg', ht', hvar, hd, hr, _⟩ := h
  obtain rfl := Option.some.inj (hg.symm.trans hg')
  obtain rfl := Option.some.inj (hty.symm.trans ht')
  refine ⟨?_, q, hr⟩
  unfold Lib.TabIs
  rw [hvar, ← Lib.cells_of_tab ht he hce hct hd]

theorem gok {W : World} (h : laidMetH Tryd.prog [("lightclient/sha.constants", YtmafojaagmneoaaDoor.Rows.laid_lightclient_sha_constants), ("lightclient/sha.initial", YtmafojaagmneoaaDoor.Rows.laid_lightclient_sha_initial)] W) : GOk W (fun _ => False) := by
  have h1 : laidMet Tryd.prog [("lightclient/sha.constants", Lib.tabData .u32 kons), ("lightclient/sha.initial", Lib.tabData .u32 inits)] W := h
  obtain ⟨ps, hv, _⟩ := h1
  obtain ⟨t1, q, hv2⟩ := tab_vars (g := 1) (t := 124) (e := 22) (n := 64) (by kernel_rfl) (by kernel_rfl) (by kernel_rfl) (by kernel_rfl) (by kernel_rfl) (by kernel_rfl) hv
  obtain ⟨t2, _, _⟩ := tab_vars (g := 0) (t := 109) (e := 22) (n := 8) (by kernel_rfl) (by kernel_rfl) (by kernel_rfl) (by kernel_rfl) (by kernel_rfl) (by kernel_rfl) hv2
  obtain ⟨e1, f1, b1⟩ := cells_tab (g := 1) (by kernel_rfl) t1
  obtain ⟨e2, f2, b2⟩ := cells_tab (g := 0) (by kernel_rfl) t2
  have k1 := gok_one b1
  have k2 := gok_one b2
  intro g t x hg
  by_cases h0 : 0 = g
  · subst h0
    have e : Go.SE.look gtab 0 = some (.arr 8 (.int .u32), gdat0) := rfl
    rw [e] at hg
    cases hg
    exact ⟨fun k => k, k2⟩
  by_cases h1 : 1 = g
  · subst h1
    have e : Go.SE.look gtab 1 = some (.arr 64 (.int .u32), gdat1) := rfl
    rw [e] at hg
    cases hg
    exact ⟨fun k => k, k1⟩
  · unfold gtab at hg
    simp only [Go.SE.look, if_neg h0, if_neg h1] at hg
    exact absurd hg (by simp)
end Go.Proofs
/- What every law of the seat needs. -/
namespace Go.Proofs
open Go.SE Go.ChangeShapes Go.RowKit
theorem Tryd.own : ownKnob Tryd.prog.godebug = none := by kernel_rfl
theorem Tryd.laidOut : laidOutB Tryd.prog = true := by kernel_rfl
end Go.Proofs
