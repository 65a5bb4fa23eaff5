/- Integers as bytes. -/
import Derived.Test.YtbdalbibdkipcaaTb
set_option linter.unusedVariables false
set_option linter.unusedSimpArgs false
set_option linter.constructorNameAsVariable false
namespace Go.Proofs
open Go.SE

/-- The lowest k bytes of a number. -/
def le (n k : Nat) : List D := (List.range k).map fun i => .n (n / 256 ^ i % 256 : Nat)
theorem le_zero (n : Nat) : le n 0 = [] := rfl
theorem le_succ (n k : Nat) : le n (k + 1) = le n k ++ [.n (n / 256 ^ k % 256 : Nat)] := by simp [le, List.range_succ]
theorem le_length (n k : Nat) : (le n k).length = k := by simp [le]

theorem le_byte (n i : Nat) (hi : i < 8) : IntKind.u8.wrap (Int.fdiv (n : Int) (2 ^ min (8 * (i : Int)).toNat IntKind.u64.bits)) = ((n / 256 ^ i % 256 : Nat) : Int) := by
  have h1 : min (8 * (i : Int)).toNat IntKind.u64.bits = 8 * i := by show min _ 64 = _; omega
  rw [h1, IntKind.wrap_u8]
  have h2 : ((2 : Int) ^ (8 * i)) = ((256 ^ i : Nat) : Int) := by
    rw [show (256 : Nat) = 2 ^ 8 from rfl, ← Nat.pow_mul, Int.natCast_pow]
    rfl
  rw [h2, Int.fdiv_eq_ediv_of_nonneg _ (Int.natCast_nonneg _)]
  rw [Int.natCast_emod, Int.natCast_ediv]
  rfl

set_option maxHeartbeats 2000000 in
theorem put8 (b : List D) (n : Nat) (size : Nat) (hb : b.length ≤ 2 ^ 40) (hs : size ≤ 8) (hn : n < 2 ^ 8) : SCall Try.prog 49 [(.sl (.int .u8), .l b), (.int .u8, .n n), (.int .i64, .n size)] (fun rs => rs = [.own (.int .u8) (b ++ le n size)]) := by
  refine scall_intro (n := 31) (rl := [.tmp 6]) (us := [22]) Try.hT Try.func49 rfl rfl rfl rfl rfl (Nat.le_of_ble_eq_true rfl) ?_
  intro w0
  simp -dsimp -implicitDefEqProofs (disch := omega) only [↓gpre, ↓bldS, ↓bld, ↓reduceIte, ↓gmore, gpost, gall, keepT, den, del, upd, dels, refs, hasTy, sArgs, aRefs, rvs, nodupB, memB, app, pTm, Ty.bytes, kbytes, Ty.zeroD, Ty.size, Ty.cmp, Ty.depth, Go.SE.look, reduceCtorEq, Nat.reduceAdd, Nat.reduceSub, Nat.reduceMul, Nat.reduceEqDiff, Nat.reduceLT, Nat.reduceLeDiff, Nat.reduceMod, Nat.reduceDiv, Nat.reducePow, Nat.reduceBEq, Int.reduceToNat, Int.reduceLE, Int.reduceLT, Int.reduceEq, Int.reduceAdd, Int.reduceMul, Int.reduceSub, Int.reduceNeg, Int.reduceNe, Try.TS]
  repeat (refine And.intro (by omega) ?_)
  refine sloop Try.hT (α := Nat) (fun i => ⟨31, [(17, .v (.d (.int .i64) (.n i))), (16, .v (.d (.int .i64) (.n size))), (7, .v (.ref 0 [] 0 (b.length + i))), (1, .v (.d (.int .u8) (.n n)))], [(0, ⟨.arr (b.length + i) (.int .u8), .d (.arr (b.length + i) (.int .u8)) (.l (b ++ le n i))⟩)], 1⟩) (fun i => i ≤ size) (fun i => size - i) 0 ?_ (Nat.zero_le _) ?_
  · refine sub_ren w0 [(0, 1)] rfl (by simp [keysLt]) rfl ?_ ?_
    · simp [renTm, Go.SE.look, renTV, renSV]
    · simp [renOb, Go.SE.look, renSV, le_zero]
  · intro i hi
    simp -dsimp -implicitDefEqProofs (disch := omega) only [↓gpre, ↓bldS, ↓bld, ↓reduceIte, ↓gmore, gpost, gall, keepT, den, del, upd, dels, refs, hasTy, sArgs, aRefs, rvs, nodupB, memB, app, pTm, Ty.bytes, kbytes, Ty.zeroD, Ty.size, Ty.cmp, Ty.depth, Go.SE.look, reduceCtorEq, Nat.reduceAdd, Nat.reduceSub, Nat.reduceMul, Nat.reduceEqDiff, Nat.reduceLT, Nat.reduceLeDiff, Nat.reduceMod, Nat.reduceDiv, Nat.reducePow, Nat.reduceBEq, Int.reduceToNat, Int.reduceLE, Int.reduceLT, Int.reduceEq, Int.reduceAdd, Int.reduceMul, Int.reduceSub, Int.reduceNeg, Int.reduceNe, Try.TS]
    refine HIf_dec (fun h => ?_) (fun h => ?_)
    · simp -dsimp -implicitDefEqProofs (disch := omega) only [↓gpre, ↓bldS, ↓bld, ↓reduceIte, ↓gmore, gpost, gall, keepT, den, del, upd, dels, refs, hasTy, sArgs, aRefs, rvs, nodupB, memB, app, pTm, Ty.bytes, kbytes, Ty.zeroD, Ty.size, Ty.cmp, Ty.depth, Go.SE.look, reduceCtorEq, Nat.reduceAdd, Nat.reduceSub, Nat.reduceMul, Nat.reduceEqDiff, Nat.reduceLT, Nat.reduceLeDiff, Nat.reduceMod, Nat.reduceDiv, Nat.reducePow, Nat.reduceBEq, Int.reduceToNat, Int.reduceLE, Int.reduceLT, Int.reduceEq, Int.reduceAdd, Int.reduceMul, Int.reduceSub, Int.reduceNeg, Int.reduceNe, Try.TS, le_byte]
      repeat (refine And.intro (by omega) ?_)
      refine ⟨i + 1, by omega, by omega, ?_⟩
      refine sub_ren w0 [(0, 2)] rfl (by simp [keysLt]) rfl ?_ ?_
      · simp [renTm, Go.SE.look, renTV, renSV, Nat.add_assoc]
      · simp [renOb, Go.SE.look, renSV, le_succ, Nat.add_assoc]
    · simp -dsimp -implicitDefEqProofs (disch := omega) only [↓gpre, ↓bldS, ↓bld, ↓reduceIte, ↓gmore, gpost, gall, keepT, den, del, upd, dels, refs, hasTy, sArgs, aRefs, rvs, nodupB, memB, app, pTm, Ty.bytes, kbytes, Ty.zeroD, Ty.size, Ty.cmp, Ty.depth, Go.SE.look, reduceCtorEq, Nat.reduceAdd, Nat.reduceSub, Nat.reduceMul, Nat.reduceEqDiff, Nat.reduceLT, Nat.reduceLeDiff, Nat.reduceMod, Nat.reduceDiv, Nat.reducePow, Nat.reduceBEq, Int.reduceToNat, Int.reduceLE, Int.reduceLT, Int.reduceEq, Int.reduceAdd, Int.reduceMul, Int.reduceSub, Int.reduceNeg, Int.reduceNe, Try.TS]
      have e : i = size := by omega
      subst e
      rw [List.take_of_length_le (by simp [le_length])]

set_option maxHeartbeats 2000000 in
theorem put16 (b : List D) (n : Nat) (size : Nat) (hb : b.length ≤ 2 ^ 40) (hs : size ≤ 8) (hn : n < 2 ^ 16) : SCall Try.prog 50 [(.sl (.int .u8), .l b), (.int .u16, .n n), (.int .i64, .n size)] (fun rs => rs = [.own (.int .u8) (b ++ le n size)]) := by
  refine scall_intro (n := 31) (rl := [.tmp 6]) (us := [22]) Try.hT Try.func50 rfl rfl rfl rfl rfl (Nat.le_of_ble_eq_true rfl) ?_
  intro w0
  simp -dsimp -implicitDefEqProofs (disch := omega) only [↓gpre, ↓bldS, ↓bld, ↓reduceIte, ↓gmore, gpost, gall, keepT, den, del, upd, dels, refs, hasTy, sArgs, aRefs, rvs, nodupB, memB, app, pTm, Ty.bytes, kbytes, Ty.zeroD, Ty.size, Ty.cmp, Ty.depth, Go.SE.look, reduceCtorEq, Nat.reduceAdd, Nat.reduceSub, Nat.reduceMul, Nat.reduceEqDiff, Nat.reduceLT, Nat.reduceLeDiff, Nat.reduceMod, Nat.reduceDiv, Nat.reducePow, Nat.reduceBEq, Int.reduceToNat, Int.reduceLE, Int.reduceLT, Int.reduceEq, Int.reduceAdd, Int.reduceMul, Int.reduceSub, Int.reduceNeg, Int.reduceNe, Try.TS]
  repeat (refine And.intro (by omega) ?_)
  refine sloop Try.hT (α := Nat) (fun i => ⟨31, [(17, .v (.d (.int .i64) (.n i))), (16, .v (.d (.int .i64) (.n size))), (7, .v (.ref 0 [] 0 (b.length + i))), (1, .v (.d (.int .u16) (.n n)))], [(0, ⟨.arr (b.length + i) (.int .u8), .d (.arr (b.length + i) (.int .u8)) (.l (b ++ le n i))⟩)], 1⟩) (fun i => i ≤ size) (fun i => size - i) 0 ?_ (Nat.zero_le _) ?_
  · refine sub_ren w0 [(0, 1)] rfl (by simp [keysLt]) rfl ?_ ?_
    · simp [renTm, Go.SE.look, renTV, renSV]
    · simp [renOb, Go.SE.look, renSV, le_zero]
  · intro i hi
    simp -dsimp -implicitDefEqProofs (disch := omega) only [↓gpre, ↓bldS, ↓bld, ↓reduceIte, ↓gmore, gpost, gall, keepT, den, del, upd, dels, refs, hasTy, sArgs, aRefs, rvs, nodupB, memB, app, pTm, Ty.bytes, kbytes, Ty.zeroD, Ty.size, Ty.cmp, Ty.depth, Go.SE.look, reduceCtorEq, Nat.reduceAdd, Nat.reduceSub, Nat.reduceMul, Nat.reduceEqDiff, Nat.reduceLT, Nat.reduceLeDiff, Nat.reduceMod, Nat.reduceDiv, Nat.reducePow, Nat.reduceBEq, Int.reduceToNat, Int.reduceLE, Int.reduceLT, Int.reduceEq, Int.reduceAdd, Int.reduceMul, Int.reduceSub, Int.reduceNeg, Int.reduceNe, Try.TS]
    refine HIf_dec (fun h => ?_) (fun h => ?_)
    · simp -dsimp -implicitDefEqProofs (disch := omega) only [↓gpre, ↓bldS, ↓bld, ↓reduceIte, ↓gmore, gpost, gall, keepT, den, del, upd, dels, refs, hasTy, sArgs, aRefs, rvs, nodupB, memB, app, pTm, Ty.bytes, kbytes, Ty.zeroD, Ty.size, Ty.cmp, Ty.depth, Go.SE.look, reduceCtorEq, Nat.reduceAdd, Nat.reduceSub, Nat.reduceMul, Nat.reduceEqDiff, Nat.reduceLT, Nat.reduceLeDiff, Nat.reduceMod, Nat.reduceDiv, Nat.reducePow, Nat.reduceBEq, Int.reduceToNat, Int.reduceLE, Int.reduceLT, Int.reduceEq, Int.reduceAdd, Int.reduceMul, Int.reduceSub, Int.reduceNeg, Int.reduceNe, Try.TS, le_byte]
      repeat (refine And.intro (by omega) ?_)
      refine ⟨i + 1, by omega, by omega, ?_⟩
      refine sub_ren w0 [(0, 2)] rfl (by simp [keysLt]) rfl ?_ ?_
      · simp [renTm, Go.SE.look, renTV, renSV, Nat.add_assoc]
      · simp [renOb, Go.SE.look, renSV, le_succ, Nat.add_assoc]
    · simp -dsimp -implicitDefEqProofs (disch := omega) only [↓gpre, ↓bldS, ↓bld, ↓reduceIte, ↓gmore, gpost, gall, keepT, den, del, upd, dels, refs, hasTy, sArgs, aRefs, rvs, nodupB, memB, app, pTm, Ty.bytes, kbytes, Ty.zeroD, Ty.size, Ty.cmp, Ty.depth, Go.SE.look, reduceCtorEq, Nat.reduceAdd, Nat.reduceSub, Nat.reduceMul, Nat.reduceEqDiff, Nat.reduceLT, Nat.reduceLeDiff, Nat.reduceMod, Nat.reduceDiv, Nat.reducePow, Nat.reduceBEq, Int.reduceToNat, Int.reduceLE, Int.reduceLT, Int.reduceEq, Int.reduceAdd, Int.reduceMul, Int.reduceSub, Int.reduceNeg, Int.reduceNe, Try.TS]
      have e : i = size := by omega
      subst e
      rw [List.take_of_length_le (by simp [le_length])]

set_option maxHeartbeats 2000000 in
theorem put32 (b : List D) (n : Nat) (size : Nat) (hb : b.length ≤ 2 ^ 40) (hs : size ≤ 8) (hn : n < 2 ^ 32) : SCall Try.prog 51 [(.sl (.int .u8), .l b), (.int .u32, .n n), (.int .i64, .n size)] (fun rs => rs = [.own (.int .u8) (b ++ le n size)]) := by
  refine scall_intro (n := 31) (rl := [.tmp 6]) (us := [22]) Try.hT Try.func51 rfl rfl rfl rfl rfl (Nat.le_of_ble_eq_true rfl) ?_
  intro w0
  simp -dsimp -implicitDefEqProofs (disch := omega) only [↓gpre, ↓bldS, ↓bld, ↓reduceIte, ↓gmore, gpost, gall, keepT, den, del, upd, dels, refs, hasTy, sArgs, aRefs, rvs, nodupB, memB, app, pTm, Ty.bytes, kbytes, Ty.zeroD, Ty.size, Ty.cmp, Ty.depth, Go.SE.look, reduceCtorEq, Nat.reduceAdd, Nat.reduceSub, Nat.reduceMul, Nat.reduceEqDiff, Nat.reduceLT, Nat.reduceLeDiff, Nat.reduceMod, Nat.reduceDiv, Nat.reducePow, Nat.reduceBEq, Int.reduceToNat, Int.reduceLE, Int.reduceLT, Int.reduceEq, Int.reduceAdd, Int.reduceMul, Int.reduceSub, Int.reduceNeg, Int.reduceNe, Try.TS]
  repeat (refine And.intro (by omega) ?_)
  refine sloop Try.hT (α := Nat) (fun i => ⟨31, [(17, .v (.d (.int .i64) (.n i))), (16, .v (.d (.int .i64) (.n size))), (7, .v (.ref 0 [] 0 (b.length + i))), (1, .v (.d (.int .u32) (.n n)))], [(0, ⟨.arr (b.length + i) (.int .u8), .d (.arr (b.length + i) (.int .u8)) (.l (b ++ le n i))⟩)], 1⟩) (fun i => i ≤ size) (fun i => size - i) 0 ?_ (Nat.zero_le _) ?_
  · refine sub_ren w0 [(0, 1)] rfl (by simp [keysLt]) rfl ?_ ?_
    · simp [renTm, Go.SE.look, renTV, renSV]
    · simp [renOb, Go.SE.look, renSV, le_zero]
  · intro i hi
    simp -dsimp -implicitDefEqProofs (disch := omega) only [↓gpre, ↓bldS, ↓bld, ↓reduceIte, ↓gmore, gpost, gall, keepT, den, del, upd, dels, refs, hasTy, sArgs, aRefs, rvs, nodupB, memB, app, pTm, Ty.bytes, kbytes, Ty.zeroD, Ty.size, Ty.cmp, Ty.depth, Go.SE.look, reduceCtorEq, Nat.reduceAdd, Nat.reduceSub, Nat.reduceMul, Nat.reduceEqDiff, Nat.reduceLT, Nat.reduceLeDiff, Nat.reduceMod, Nat.reduceDiv, Nat.reducePow, Nat.reduceBEq, Int.reduceToNat, Int.reduceLE, Int.reduceLT, Int.reduceEq, Int.reduceAdd, Int.reduceMul, Int.reduceSub, Int.reduceNeg, Int.reduceNe, Try.TS]
    refine HIf_dec (fun h => ?_) (fun h => ?_)
    · simp -dsimp -implicitDefEqProofs (disch := omega) only [↓gpre, ↓bldS, ↓bld, ↓reduceIte, ↓gmore, gpost, gall, keepT, den, del, upd, dels, refs, hasTy, sArgs, aRefs, rvs, nodupB, memB, app, pTm, Ty.bytes, kbytes, Ty.zeroD, Ty.size, Ty.cmp, Ty.depth, Go.SE.look, reduceCtorEq, Nat.reduceAdd, Nat.reduceSub, Nat.reduceMul, Nat.reduceEqDiff, Nat.reduceLT, Nat.reduceLeDiff, Nat.reduceMod, Nat.reduceDiv, Nat.reducePow, Nat.reduceBEq, Int.reduceToNat, Int.reduceLE, Int.reduceLT, Int.reduceEq, Int.reduceAdd, Int.reduceMul, Int.reduceSub, Int.reduceNeg, Int.reduceNe, Try.TS, le_byte]
      repeat (refine And.intro (by omega) ?_)
      refine ⟨i + 1, by omega, by omega, ?_⟩
      refine sub_ren w0 [(0, 2)] rfl (by simp [keysLt]) rfl ?_ ?_
      · simp [renTm, Go.SE.look, renTV, renSV, Nat.add_assoc]
      · simp [renOb, Go.SE.look, renSV, le_succ, Nat.add_assoc]
    · simp -dsimp -implicitDefEqProofs (disch := omega) only [↓gpre, ↓bldS, ↓bld, ↓reduceIte, ↓gmore, gpost, gall, keepT, den, del, upd, dels, refs, hasTy, sArgs, aRefs, rvs, nodupB, memB, app, pTm, Ty.bytes, kbytes, Ty.zeroD, Ty.size, Ty.cmp, Ty.depth, Go.SE.look, reduceCtorEq, Nat.reduceAdd, Nat.reduceSub, Nat.reduceMul, Nat.reduceEqDiff, Nat.reduceLT, Nat.reduceLeDiff, Nat.reduceMod, Nat.reduceDiv, Nat.reducePow, Nat.reduceBEq, Int.reduceToNat, Int.reduceLE, Int.reduceLT, Int.reduceEq, Int.reduceAdd, Int.reduceMul, Int.reduceSub, Int.reduceNeg, Int.reduceNe, Try.TS]
      have e : i = size := by omega
      subst e
      rw [List.take_of_length_le (by simp [le_length])]

set_option maxHeartbeats 2000000 in
theorem put64 (b : List D) (n : Nat) (size : Nat) (hb : b.length ≤ 2 ^ 40) (hs : size ≤ 8) (hn : n < 2 ^ 64) : SCall Try.prog 52 [(.sl (.int .u8), .l b), (.int .u64, .n n), (.int .i64, .n size)] (fun rs => rs = [.own (.int .u8) (b ++ le n size)]) := by
  refine scall_intro (n := 30) (rl := [.tmp 6]) (us := [22]) Try.hT Try.func52 rfl rfl rfl rfl rfl (Nat.le_of_ble_eq_true rfl) ?_
  intro w0
  simp -dsimp -implicitDefEqProofs (disch := omega) only [↓gpre, ↓bldS, ↓bld, ↓reduceIte, ↓gmore, gpost, gall, keepT, den, del, upd, dels, refs, hasTy, sArgs, aRefs, rvs, nodupB, memB, app, pTm, Ty.bytes, kbytes, Ty.zeroD, Ty.size, Ty.cmp, Ty.depth, Go.SE.look, reduceCtorEq, Nat.reduceAdd, Nat.reduceSub, Nat.reduceMul, Nat.reduceEqDiff, Nat.reduceLT, Nat.reduceLeDiff, Nat.reduceMod, Nat.reduceDiv, Nat.reducePow, Nat.reduceBEq, Int.reduceToNat, Int.reduceLE, Int.reduceLT, Int.reduceEq, Int.reduceAdd, Int.reduceMul, Int.reduceSub, Int.reduceNeg, Int.reduceNe, Try.TS]
  repeat (refine And.intro (by omega) ?_)
  refine sloop Try.hT (α := Nat) (fun i => ⟨30, [(17, .v (.d (.int .i64) (.n i))), (16, .v (.d (.int .i64) (.n size))), (7, .v (.ref 0 [] 0 (b.length + i))), (1, .v (.d (.int .u64) (.n n)))], [(0, ⟨.arr (b.length + i) (.int .u8), .d (.arr (b.length + i) (.int .u8)) (.l (b ++ le n i))⟩)], 1⟩) (fun i => i ≤ size) (fun i => size - i) 0 ?_ (Nat.zero_le _) ?_
  · refine sub_ren w0 [(0, 1)] rfl (by simp [keysLt]) rfl ?_ ?_
    · simp [renTm, Go.SE.look, renTV, renSV]
    · simp [renOb, Go.SE.look, renSV, le_zero]
  · intro i hi
    simp -dsimp -implicitDefEqProofs (disch := omega) only [↓gpre, ↓bldS, ↓bld, ↓reduceIte, ↓gmore, gpost, gall, keepT, den, del, upd, dels, refs, hasTy, sArgs, aRefs, rvs, nodupB, memB, app, pTm, Ty.bytes, kbytes, Ty.zeroD, Ty.size, Ty.cmp, Ty.depth, Go.SE.look, reduceCtorEq, Nat.reduceAdd, Nat.reduceSub, Nat.reduceMul, Nat.reduceEqDiff, Nat.reduceLT, Nat.reduceLeDiff, Nat.reduceMod, Nat.reduceDiv, Nat.reducePow, Nat.reduceBEq, Int.reduceToNat, Int.reduceLE, Int.reduceLT, Int.reduceEq, Int.reduceAdd, Int.reduceMul, Int.reduceSub, Int.reduceNeg, Int.reduceNe, Try.TS]
    refine HIf_dec (fun h => ?_) (fun h => ?_)
    · simp -dsimp -implicitDefEqProofs (disch := omega) only [↓gpre, ↓bldS, ↓bld, ↓reduceIte, ↓gmore, gpost, gall, keepT, den, del, upd, dels, refs, hasTy, sArgs, aRefs, rvs, nodupB, memB, app, pTm, Ty.bytes, kbytes, Ty.zeroD, Ty.size, Ty.cmp, Ty.depth, Go.SE.look, reduceCtorEq, Nat.reduceAdd, Nat.reduceSub, Nat.reduceMul, Nat.reduceEqDiff, Nat.reduceLT, Nat.reduceLeDiff, Nat.reduceMod, Nat.reduceDiv, Nat.reducePow, Nat.reduceBEq, Int.reduceToNat, Int.reduceLE, Int.reduceLT, Int.reduceEq, Int.reduceAdd, Int.reduceMul, Int.reduceSub, Int.reduceNeg, Int.reduceNe, Try.TS, le_byte]
      repeat (refine And.intro (by omega) ?_)
      refine ⟨i + 1, by omega, by omega, ?_⟩
      refine sub_ren w0 [(0, 2)] rfl (by simp [keysLt]) rfl ?_ ?_
      · simp [renTm, Go.SE.look, renTV, renSV, Nat.add_assoc]
      · simp [renOb, Go.SE.look, renSV, le_succ, Nat.add_assoc]
    · simp -dsimp -implicitDefEqProofs (disch := omega) only [↓gpre, ↓bldS, ↓bld, ↓reduceIte, ↓gmore, gpost, gall, keepT, den, del, upd, dels, refs, hasTy, sArgs, aRefs, rvs, nodupB, memB, app, pTm, Ty.bytes, kbytes, Ty.zeroD, Ty.size, Ty.cmp, Ty.depth, Go.SE.look, reduceCtorEq, Nat.reduceAdd, Nat.reduceSub, Nat.reduceMul, Nat.reduceEqDiff, Nat.reduceLT, Nat.reduceLeDiff, Nat.reduceMod, Nat.reduceDiv, Nat.reducePow, Nat.reduceBEq, Int.reduceToNat, Int.reduceLE, Int.reduceLT, Int.reduceEq, Int.reduceAdd, Int.reduceMul, Int.reduceSub, Int.reduceNeg, Int.reduceNe, Try.TS]
      have e : i = size := by omega
      subst e
      rw [List.take_of_length_le (by simp [le_length])]

end Go.Proofs
