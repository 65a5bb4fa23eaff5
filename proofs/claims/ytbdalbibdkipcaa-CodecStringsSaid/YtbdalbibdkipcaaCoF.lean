/- The reference's size. -/
import Derived.Test.YtbdalbibdkipcaaCoE
set_option linter.unusedVariables false
set_option linter.unusedSimpArgs false
set_option linter.constructorNameAsVariable false
namespace Go.Proofs
open Go.SE

theorem shl_2 : IntKind.i64.wrap (2 * 2 ^ min 0 IntKind.i64.bits) = 2 := rfl
theorem shl_4 : IntKind.i64.wrap (2 * 2 ^ min 1 IntKind.i64.bits) = 4 := rfl
theorem shl_8 : IntKind.i64.wrap (2 * 2 ^ min 2 IntKind.i64.bits) = 8 := rfl

set_option maxHeartbeats 2000000 in
theorem sizeRef (b : List D) (p : Int) (most : Nat) (hB : BY b) (hb : b.length ≤ 9223372036854775807) (hp : -9223372036854775808 ≤ p ∧ p ≤ 9223372036854775807) (hm : most < 2 ^ 64) :
    SCall Try.prog 14 [(.sl (.int .u8), .l b), (.int .i64, .n p), (.int .u64, .n most)] (fun rs => rs = [.d (.int .u64) (.n (sizeR b p most).1), .d (.int .i64) (.n (sizeR b p most).2.1), .d (.int .i64) (.n (sizeR b p most).2.2)]) := by
  refine scall_intro (n := 68) (rl := [.tmp 6, .tmp 7, .tmp 8]) (us := [23, 3, 25]) Try.hT Try.func14 rfl rfl rfl rfl rfl (Nat.le_of_ble_eq_true rfl) ?_
  intro w0
  simp -dsimp -implicitDefEqProofs (disch := omega) only [↓gpre, ↓bldS, ↓bld, ↓reduceIte, ↓gmore, gpost, gall, keepT, den, del, upd, dels, refs, hasTy, sArgs, aRefs, rvs, nodupB, memB, app, pTm, Ty.bytes, kbytes, Ty.zeroD, Ty.size, Ty.cmp, Ty.depth, Go.SE.look, reduceCtorEq, Nat.reduceAdd, Nat.reduceSub, Nat.reduceMul, Nat.reduceEqDiff, Nat.reduceLT, Nat.reduceLeDiff, Nat.reduceMod, Nat.reduceDiv, Nat.reducePow, Nat.reduceBEq, Int.reduceToNat, Int.reduceLE, Int.reduceLT, Int.reduceEq, Int.reduceAdd, Int.reduceMul, Int.reduceSub, Int.reduceNeg, Int.reduceNe, Try.TS]
  refine SCall.mono (number' b p 1 hB hb hp (by omega)) ?_
  rintro rs rfl
  rcases getR_cases b p 1 with ⟨e, he, hg⟩ | ⟨a, rfl, hl, hg⟩
  · rw [hg]
    simp -dsimp -implicitDefEqProofs (disch := omega) only [↓gpre, ↓bldS, ↓bld, ↓reduceIte, ↓gmore, gpost, gall, keepT, den, del, upd, dels, refs, hasTy, sArgs, aRefs, rvs, nodupB, memB, app, pTm, Ty.bytes, kbytes, Ty.zeroD, Ty.size, Ty.cmp, Ty.depth, Go.SE.look, reduceCtorEq, Nat.reduceAdd, Nat.reduceSub, Nat.reduceMul, Nat.reduceEqDiff, Nat.reduceLT, Nat.reduceLeDiff, Nat.reduceMod, Nat.reduceDiv, Nat.reducePow, Nat.reduceBEq, Int.reduceToNat, Int.reduceLE, Int.reduceLT, Int.reduceEq, Int.reduceAdd, Int.reduceMul, Int.reduceSub, Int.reduceNeg, Int.reduceNe, Try.TS]
    refine HIf_ndec (fun h => ?_) (fun h => by omega)
    simp -dsimp -implicitDefEqProofs (disch := omega) only [↓gpre, ↓bldS, ↓bld, ↓reduceIte, ↓gmore, gpost, gall, keepT, den, del, upd, dels, refs, hasTy, sArgs, aRefs, rvs, nodupB, memB, app, pTm, Ty.bytes, kbytes, Ty.zeroD, Ty.size, Ty.cmp, Ty.depth, Go.SE.look, reduceCtorEq, Nat.reduceAdd, Nat.reduceSub, Nat.reduceMul, Nat.reduceEqDiff, Nat.reduceLT, Nat.reduceLeDiff, Nat.reduceMod, Nat.reduceDiv, Nat.reducePow, Nat.reduceBEq, Int.reduceToNat, Int.reduceLE, Int.reduceLT, Int.reduceEq, Int.reduceAdd, Int.reduceMul, Int.reduceSub, Int.reduceNeg, Int.reduceNe, Try.TS]
    unfold sizeR
    rw [hg, if_pos h]
    rfl
  rw [hg]
  have h1 := num_lt hB 1 a
  simp -dsimp -implicitDefEqProofs (disch := omega) only [↓gpre, ↓bldS, ↓bld, ↓reduceIte, ↓gmore, gpost, gall, keepT, den, del, upd, dels, refs, hasTy, sArgs, aRefs, rvs, nodupB, memB, app, pTm, Ty.bytes, kbytes, Ty.zeroD, Ty.size, Ty.cmp, Ty.depth, Go.SE.look, reduceCtorEq, Nat.reduceAdd, Nat.reduceSub, Nat.reduceMul, Nat.reduceEqDiff, Nat.reduceLT, Nat.reduceLeDiff, Nat.reduceMod, Nat.reduceDiv, Nat.reducePow, Nat.reduceBEq, Int.reduceToNat, Int.reduceLE, Int.reduceLT, Int.reduceEq, Int.reduceAdd, Int.reduceMul, Int.reduceSub, Int.reduceNeg, Int.reduceNe, Try.TS]
  refine HIf_dec (fun hge => ?_) (fun hlt => ?_)
  · have hv : num b a 1 = 253 ∨ num b a 1 = 254 ∨ num b a 1 = 255 := by omega
    rcases hv with hv | hv | hv
    · have hz : sizeR b a most = fin (getR b (a + 1) 2) 253 most := by
        unfold sizeR
        rw [hg, if_neg (fun h => h rfl)]
        simp [hv]
      rw [hz, show ((num b a 1 : Nat) : Int) = 253 by omega]
      simp -dsimp -implicitDefEqProofs (disch := omega) only [↓gpre, ↓bldS, ↓bld, ↓reduceIte, ↓gmore, gpost, gall, keepT, den, del, upd, dels, refs, hasTy, sArgs, aRefs, rvs, nodupB, memB, app, pTm, Ty.bytes, kbytes, Ty.zeroD, Ty.size, Ty.cmp, Ty.depth, Go.SE.look, reduceCtorEq, Nat.reduceAdd, Nat.reduceSub, Nat.reduceMul, Nat.reduceEqDiff, Nat.reduceLT, Nat.reduceLeDiff, Nat.reduceMod, Nat.reduceDiv, Nat.reducePow, Nat.reduceBEq, Int.reduceToNat, Int.reduceLE, Int.reduceLT, Int.reduceEq, Int.reduceAdd, Int.reduceMul, Int.reduceSub, Int.reduceNeg, Int.reduceNe, Try.TS, shl_2]
      refine SCall.mono (number' b ((a : Int) + 1) 2 hB hb (by omega) (by omega)) ?_
      rintro rs rfl
      rcases getR_cases b ((a : Int) + 1) 2 with ⟨e, he, hg2⟩ | ⟨a2, ha2, hl2, hg2⟩
      · rw [hg2]
        simp -dsimp -implicitDefEqProofs (disch := omega) only [↓gpre, ↓bldS, ↓bld, ↓reduceIte, ↓gmore, gpost, gall, keepT, den, del, upd, dels, refs, hasTy, sArgs, aRefs, rvs, nodupB, memB, app, pTm, Ty.bytes, kbytes, Ty.zeroD, Ty.size, Ty.cmp, Ty.depth, Go.SE.look, reduceCtorEq, Nat.reduceAdd, Nat.reduceSub, Nat.reduceMul, Nat.reduceEqDiff, Nat.reduceLT, Nat.reduceLeDiff, Nat.reduceMod, Nat.reduceDiv, Nat.reducePow, Nat.reduceBEq, Int.reduceToNat, Int.reduceLE, Int.reduceLT, Int.reduceEq, Int.reduceAdd, Int.reduceMul, Int.reduceSub, Int.reduceNeg, Int.reduceNe, Try.TS]
        refine HIf_ndec (fun h => ?_) (fun h => by omega)
        simp -dsimp -implicitDefEqProofs (disch := omega) only [↓gpre, ↓bldS, ↓bld, ↓reduceIte, ↓gmore, gpost, gall, keepT, den, del, upd, dels, refs, hasTy, sArgs, aRefs, rvs, nodupB, memB, app, pTm, Ty.bytes, kbytes, Ty.zeroD, Ty.size, Ty.cmp, Ty.depth, Go.SE.look, reduceCtorEq, Nat.reduceAdd, Nat.reduceSub, Nat.reduceMul, Nat.reduceEqDiff, Nat.reduceLT, Nat.reduceLeDiff, Nat.reduceMod, Nat.reduceDiv, Nat.reducePow, Nat.reduceBEq, Int.reduceToNat, Int.reduceLE, Int.reduceLT, Int.reduceEq, Int.reduceAdd, Int.reduceMul, Int.reduceSub, Int.reduceNeg, Int.reduceNe, Try.TS]
        simp [fin, h]
      rw [hg2]
      have h2 := num_lt hB 2 a2
      simp -dsimp -implicitDefEqProofs (disch := omega) only [↓gpre, ↓bldS, ↓bld, ↓reduceIte, ↓gmore, gpost, gall, keepT, den, del, upd, dels, refs, hasTy, sArgs, aRefs, rvs, nodupB, memB, app, pTm, Ty.bytes, kbytes, Ty.zeroD, Ty.size, Ty.cmp, Ty.depth, Go.SE.look, reduceCtorEq, Nat.reduceAdd, Nat.reduceSub, Nat.reduceMul, Nat.reduceEqDiff, Nat.reduceLT, Nat.reduceLeDiff, Nat.reduceMod, Nat.reduceDiv, Nat.reducePow, Nat.reduceBEq, Int.reduceToNat, Int.reduceLE, Int.reduceLT, Int.reduceEq, Int.reduceAdd, Int.reduceMul, Int.reduceSub, Int.reduceNeg, Int.reduceNe, Try.TS]
      refine HIf_dec (fun h => ?_) (fun h3 => ?_)
      · simp -dsimp -implicitDefEqProofs (disch := omega) only [↓gpre, ↓bldS, ↓bld, ↓reduceIte, ↓gmore, gpost, gall, keepT, den, del, upd, dels, refs, hasTy, sArgs, aRefs, rvs, nodupB, memB, app, pTm, Ty.bytes, kbytes, Ty.zeroD, Ty.size, Ty.cmp, Ty.depth, Go.SE.look, reduceCtorEq, Nat.reduceAdd, Nat.reduceSub, Nat.reduceMul, Nat.reduceEqDiff, Nat.reduceLT, Nat.reduceLeDiff, Nat.reduceMod, Nat.reduceDiv, Nat.reducePow, Nat.reduceBEq, Int.reduceToNat, Int.reduceLE, Int.reduceLT, Int.reduceEq, Int.reduceAdd, Int.reduceMul, Int.reduceSub, Int.reduceNeg, Int.reduceNe, Try.TS]
        have : num b a2 2 < 253 := by omega
        simp [fin, this]
      simp -dsimp -implicitDefEqProofs (disch := omega) only [↓gpre, ↓bldS, ↓bld, ↓reduceIte, ↓gmore, gpost, gall, keepT, den, del, upd, dels, refs, hasTy, sArgs, aRefs, rvs, nodupB, memB, app, pTm, Ty.bytes, kbytes, Ty.zeroD, Ty.size, Ty.cmp, Ty.depth, Go.SE.look, reduceCtorEq, Nat.reduceAdd, Nat.reduceSub, Nat.reduceMul, Nat.reduceEqDiff, Nat.reduceLT, Nat.reduceLeDiff, Nat.reduceMod, Nat.reduceDiv, Nat.reducePow, Nat.reduceBEq, Int.reduceToNat, Int.reduceLE, Int.reduceLT, Int.reduceEq, Int.reduceAdd, Int.reduceMul, Int.reduceSub, Int.reduceNeg, Int.reduceNe, Try.TS]
      refine HIf_dec (fun h => ?_) (fun h4 => ?_)
      · simp -dsimp -implicitDefEqProofs (disch := omega) only [↓gpre, ↓bldS, ↓bld, ↓reduceIte, ↓gmore, gpost, gall, keepT, den, del, upd, dels, refs, hasTy, sArgs, aRefs, rvs, nodupB, memB, app, pTm, Ty.bytes, kbytes, Ty.zeroD, Ty.size, Ty.cmp, Ty.depth, Go.SE.look, reduceCtorEq, Nat.reduceAdd, Nat.reduceSub, Nat.reduceMul, Nat.reduceEqDiff, Nat.reduceLT, Nat.reduceLeDiff, Nat.reduceMod, Nat.reduceDiv, Nat.reducePow, Nat.reduceBEq, Int.reduceToNat, Int.reduceLE, Int.reduceLT, Int.reduceEq, Int.reduceAdd, Int.reduceMul, Int.reduceSub, Int.reduceNeg, Int.reduceNe, Try.TS]
        have h5 : most < num b a2 2 := by omega
        have h6 : ¬ num b a2 2 < 253 := by omega
        simp [fin, h5, h6]
      simp -dsimp -implicitDefEqProofs (disch := omega) only [↓gpre, ↓bldS, ↓bld, ↓reduceIte, ↓gmore, gpost, gall, keepT, den, del, upd, dels, refs, hasTy, sArgs, aRefs, rvs, nodupB, memB, app, pTm, Ty.bytes, kbytes, Ty.zeroD, Ty.size, Ty.cmp, Ty.depth, Go.SE.look, reduceCtorEq, Nat.reduceAdd, Nat.reduceSub, Nat.reduceMul, Nat.reduceEqDiff, Nat.reduceLT, Nat.reduceLeDiff, Nat.reduceMod, Nat.reduceDiv, Nat.reducePow, Nat.reduceBEq, Int.reduceToNat, Int.reduceLE, Int.reduceLT, Int.reduceEq, Int.reduceAdd, Int.reduceMul, Int.reduceSub, Int.reduceNeg, Int.reduceNe, Try.TS]
      have h5 : ¬ most < num b a2 2 := by omega
      have h6 : ¬ num b a2 2 < 253 := by omega
      simp [fin, h5, h6]
    · have hz : sizeR b a most = fin (getR b (a + 1) 4) 65536 most := by
        unfold sizeR
        rw [hg, if_neg (fun h => h rfl)]
        simp [hv]
      rw [hz, show ((num b a 1 : Nat) : Int) = 254 by omega]
      simp -dsimp -implicitDefEqProofs (disch := omega) only [↓gpre, ↓bldS, ↓bld, ↓reduceIte, ↓gmore, gpost, gall, keepT, den, del, upd, dels, refs, hasTy, sArgs, aRefs, rvs, nodupB, memB, app, pTm, Ty.bytes, kbytes, Ty.zeroD, Ty.size, Ty.cmp, Ty.depth, Go.SE.look, reduceCtorEq, Nat.reduceAdd, Nat.reduceSub, Nat.reduceMul, Nat.reduceEqDiff, Nat.reduceLT, Nat.reduceLeDiff, Nat.reduceMod, Nat.reduceDiv, Nat.reducePow, Nat.reduceBEq, Int.reduceToNat, Int.reduceLE, Int.reduceLT, Int.reduceEq, Int.reduceAdd, Int.reduceMul, Int.reduceSub, Int.reduceNeg, Int.reduceNe, Try.TS, shl_4]
      refine SCall.mono (number' b ((a : Int) + 1) 4 hB hb (by omega) (by omega)) ?_
      rintro rs rfl
      rcases getR_cases b ((a : Int) + 1) 4 with ⟨e, he, hg2⟩ | ⟨a2, ha2, hl2, hg2⟩
      · rw [hg2]
        simp -dsimp -implicitDefEqProofs (disch := omega) only [↓gpre, ↓bldS, ↓bld, ↓reduceIte, ↓gmore, gpost, gall, keepT, den, del, upd, dels, refs, hasTy, sArgs, aRefs, rvs, nodupB, memB, app, pTm, Ty.bytes, kbytes, Ty.zeroD, Ty.size, Ty.cmp, Ty.depth, Go.SE.look, reduceCtorEq, Nat.reduceAdd, Nat.reduceSub, Nat.reduceMul, Nat.reduceEqDiff, Nat.reduceLT, Nat.reduceLeDiff, Nat.reduceMod, Nat.reduceDiv, Nat.reducePow, Nat.reduceBEq, Int.reduceToNat, Int.reduceLE, Int.reduceLT, Int.reduceEq, Int.reduceAdd, Int.reduceMul, Int.reduceSub, Int.reduceNeg, Int.reduceNe, Try.TS]
        refine HIf_ndec (fun h => ?_) (fun h => by omega)
        simp -dsimp -implicitDefEqProofs (disch := omega) only [↓gpre, ↓bldS, ↓bld, ↓reduceIte, ↓gmore, gpost, gall, keepT, den, del, upd, dels, refs, hasTy, sArgs, aRefs, rvs, nodupB, memB, app, pTm, Ty.bytes, kbytes, Ty.zeroD, Ty.size, Ty.cmp, Ty.depth, Go.SE.look, reduceCtorEq, Nat.reduceAdd, Nat.reduceSub, Nat.reduceMul, Nat.reduceEqDiff, Nat.reduceLT, Nat.reduceLeDiff, Nat.reduceMod, Nat.reduceDiv, Nat.reducePow, Nat.reduceBEq, Int.reduceToNat, Int.reduceLE, Int.reduceLT, Int.reduceEq, Int.reduceAdd, Int.reduceMul, Int.reduceSub, Int.reduceNeg, Int.reduceNe, Try.TS]
        simp [fin, h]
      rw [hg2]
      have h2 := num_lt hB 4 a2
      simp -dsimp -implicitDefEqProofs (disch := omega) only [↓gpre, ↓bldS, ↓bld, ↓reduceIte, ↓gmore, gpost, gall, keepT, den, del, upd, dels, refs, hasTy, sArgs, aRefs, rvs, nodupB, memB, app, pTm, Ty.bytes, kbytes, Ty.zeroD, Ty.size, Ty.cmp, Ty.depth, Go.SE.look, reduceCtorEq, Nat.reduceAdd, Nat.reduceSub, Nat.reduceMul, Nat.reduceEqDiff, Nat.reduceLT, Nat.reduceLeDiff, Nat.reduceMod, Nat.reduceDiv, Nat.reducePow, Nat.reduceBEq, Int.reduceToNat, Int.reduceLE, Int.reduceLT, Int.reduceEq, Int.reduceAdd, Int.reduceMul, Int.reduceSub, Int.reduceNeg, Int.reduceNe, Try.TS]
      refine HIf_dec (fun h => ?_) (fun h3 => ?_)
      · simp -dsimp -implicitDefEqProofs (disch := omega) only [↓gpre, ↓bldS, ↓bld, ↓reduceIte, ↓gmore, gpost, gall, keepT, den, del, upd, dels, refs, hasTy, sArgs, aRefs, rvs, nodupB, memB, app, pTm, Ty.bytes, kbytes, Ty.zeroD, Ty.size, Ty.cmp, Ty.depth, Go.SE.look, reduceCtorEq, Nat.reduceAdd, Nat.reduceSub, Nat.reduceMul, Nat.reduceEqDiff, Nat.reduceLT, Nat.reduceLeDiff, Nat.reduceMod, Nat.reduceDiv, Nat.reducePow, Nat.reduceBEq, Int.reduceToNat, Int.reduceLE, Int.reduceLT, Int.reduceEq, Int.reduceAdd, Int.reduceMul, Int.reduceSub, Int.reduceNeg, Int.reduceNe, Try.TS]
        have : num b a2 4 < 65536 := by omega
        simp [fin, this]
      simp -dsimp -implicitDefEqProofs (disch := omega) only [↓gpre, ↓bldS, ↓bld, ↓reduceIte, ↓gmore, gpost, gall, keepT, den, del, upd, dels, refs, hasTy, sArgs, aRefs, rvs, nodupB, memB, app, pTm, Ty.bytes, kbytes, Ty.zeroD, Ty.size, Ty.cmp, Ty.depth, Go.SE.look, reduceCtorEq, Nat.reduceAdd, Nat.reduceSub, Nat.reduceMul, Nat.reduceEqDiff, Nat.reduceLT, Nat.reduceLeDiff, Nat.reduceMod, Nat.reduceDiv, Nat.reducePow, Nat.reduceBEq, Int.reduceToNat, Int.reduceLE, Int.reduceLT, Int.reduceEq, Int.reduceAdd, Int.reduceMul, Int.reduceSub, Int.reduceNeg, Int.reduceNe, Try.TS]
      refine HIf_dec (fun h => ?_) (fun h4 => ?_)
      · simp -dsimp -implicitDefEqProofs (disch := omega) only [↓gpre, ↓bldS, ↓bld, ↓reduceIte, ↓gmore, gpost, gall, keepT, den, del, upd, dels, refs, hasTy, sArgs, aRefs, rvs, nodupB, memB, app, pTm, Ty.bytes, kbytes, Ty.zeroD, Ty.size, Ty.cmp, Ty.depth, Go.SE.look, reduceCtorEq, Nat.reduceAdd, Nat.reduceSub, Nat.reduceMul, Nat.reduceEqDiff, Nat.reduceLT, Nat.reduceLeDiff, Nat.reduceMod, Nat.reduceDiv, Nat.reducePow, Nat.reduceBEq, Int.reduceToNat, Int.reduceLE, Int.reduceLT, Int.reduceEq, Int.reduceAdd, Int.reduceMul, Int.reduceSub, Int.reduceNeg, Int.reduceNe, Try.TS]
        have h5 : most < num b a2 4 := by omega
        have h6 : ¬ num b a2 4 < 65536 := by omega
        simp [fin, h5, h6]
      simp -dsimp -implicitDefEqProofs (disch := omega) only [↓gpre, ↓bldS, ↓bld, ↓reduceIte, ↓gmore, gpost, gall, keepT, den, del, upd, dels, refs, hasTy, sArgs, aRefs, rvs, nodupB, memB, app, pTm, Ty.bytes, kbytes, Ty.zeroD, Ty.size, Ty.cmp, Ty.depth, Go.SE.look, reduceCtorEq, Nat.reduceAdd, Nat.reduceSub, Nat.reduceMul, Nat.reduceEqDiff, Nat.reduceLT, Nat.reduceLeDiff, Nat.reduceMod, Nat.reduceDiv, Nat.reducePow, Nat.reduceBEq, Int.reduceToNat, Int.reduceLE, Int.reduceLT, Int.reduceEq, Int.reduceAdd, Int.reduceMul, Int.reduceSub, Int.reduceNeg, Int.reduceNe, Try.TS]
      have h5 : ¬ most < num b a2 4 := by omega
      have h6 : ¬ num b a2 4 < 65536 := by omega
      simp [fin, h5, h6]
    · have hz : sizeR b a most = fin (getR b (a + 1) 8) 4294967296 most := by
        unfold sizeR
        rw [hg, if_neg (fun h => h rfl)]
        simp [hv]
      rw [hz, show ((num b a 1 : Nat) : Int) = 255 by omega]
      simp -dsimp -implicitDefEqProofs (disch := omega) only [↓gpre, ↓bldS, ↓bld, ↓reduceIte, ↓gmore, gpost, gall, keepT, den, del, upd, dels, refs, hasTy, sArgs, aRefs, rvs, nodupB, memB, app, pTm, Ty.bytes, kbytes, Ty.zeroD, Ty.size, Ty.cmp, Ty.depth, Go.SE.look, reduceCtorEq, Nat.reduceAdd, Nat.reduceSub, Nat.reduceMul, Nat.reduceEqDiff, Nat.reduceLT, Nat.reduceLeDiff, Nat.reduceMod, Nat.reduceDiv, Nat.reducePow, Nat.reduceBEq, Int.reduceToNat, Int.reduceLE, Int.reduceLT, Int.reduceEq, Int.reduceAdd, Int.reduceMul, Int.reduceSub, Int.reduceNeg, Int.reduceNe, Try.TS, shl_8]
      refine SCall.mono (number' b ((a : Int) + 1) 8 hB hb (by omega) (by omega)) ?_
      rintro rs rfl
      rcases getR_cases b ((a : Int) + 1) 8 with ⟨e, he, hg2⟩ | ⟨a2, ha2, hl2, hg2⟩
      · rw [hg2]
        simp -dsimp -implicitDefEqProofs (disch := omega) only [↓gpre, ↓bldS, ↓bld, ↓reduceIte, ↓gmore, gpost, gall, keepT, den, del, upd, dels, refs, hasTy, sArgs, aRefs, rvs, nodupB, memB, app, pTm, Ty.bytes, kbytes, Ty.zeroD, Ty.size, Ty.cmp, Ty.depth, Go.SE.look, reduceCtorEq, Nat.reduceAdd, Nat.reduceSub, Nat.reduceMul, Nat.reduceEqDiff, Nat.reduceLT, Nat.reduceLeDiff, Nat.reduceMod, Nat.reduceDiv, Nat.reducePow, Nat.reduceBEq, Int.reduceToNat, Int.reduceLE, Int.reduceLT, Int.reduceEq, Int.reduceAdd, Int.reduceMul, Int.reduceSub, Int.reduceNeg, Int.reduceNe, Try.TS]
        refine HIf_ndec (fun h => ?_) (fun h => by omega)
        simp -dsimp -implicitDefEqProofs (disch := omega) only [↓gpre, ↓bldS, ↓bld, ↓reduceIte, ↓gmore, gpost, gall, keepT, den, del, upd, dels, refs, hasTy, sArgs, aRefs, rvs, nodupB, memB, app, pTm, Ty.bytes, kbytes, Ty.zeroD, Ty.size, Ty.cmp, Ty.depth, Go.SE.look, reduceCtorEq, Nat.reduceAdd, Nat.reduceSub, Nat.reduceMul, Nat.reduceEqDiff, Nat.reduceLT, Nat.reduceLeDiff, Nat.reduceMod, Nat.reduceDiv, Nat.reducePow, Nat.reduceBEq, Int.reduceToNat, Int.reduceLE, Int.reduceLT, Int.reduceEq, Int.reduceAdd, Int.reduceMul, Int.reduceSub, Int.reduceNeg, Int.reduceNe, Try.TS]
        simp [fin, h]
      rw [hg2]
      have h2 := num_lt hB 8 a2
      simp -dsimp -implicitDefEqProofs (disch := omega) only [↓gpre, ↓bldS, ↓bld, ↓reduceIte, ↓gmore, gpost, gall, keepT, den, del, upd, dels, refs, hasTy, sArgs, aRefs, rvs, nodupB, memB, app, pTm, Ty.bytes, kbytes, Ty.zeroD, Ty.size, Ty.cmp, Ty.depth, Go.SE.look, reduceCtorEq, Nat.reduceAdd, Nat.reduceSub, Nat.reduceMul, Nat.reduceEqDiff, Nat.reduceLT, Nat.reduceLeDiff, Nat.reduceMod, Nat.reduceDiv, Nat.reducePow, Nat.reduceBEq, Int.reduceToNat, Int.reduceLE, Int.reduceLT, Int.reduceEq, Int.reduceAdd, Int.reduceMul, Int.reduceSub, Int.reduceNeg, Int.reduceNe, Try.TS]
      refine HIf_dec (fun h => ?_) (fun h3 => ?_)
      · simp -dsimp -implicitDefEqProofs (disch := omega) only [↓gpre, ↓bldS, ↓bld, ↓reduceIte, ↓gmore, gpost, gall, keepT, den, del, upd, dels, refs, hasTy, sArgs, aRefs, rvs, nodupB, memB, app, pTm, Ty.bytes, kbytes, Ty.zeroD, Ty.size, Ty.cmp, Ty.depth, Go.SE.look, reduceCtorEq, Nat.reduceAdd, Nat.reduceSub, Nat.reduceMul, Nat.reduceEqDiff, Nat.reduceLT, Nat.reduceLeDiff, Nat.reduceMod, Nat.reduceDiv, Nat.reducePow, Nat.reduceBEq, Int.reduceToNat, Int.reduceLE, Int.reduceLT, Int.reduceEq, Int.reduceAdd, Int.reduceMul, Int.reduceSub, Int.reduceNeg, Int.reduceNe, Try.TS]
        have : num b a2 8 < 4294967296 := by omega
        simp [fin, this]
      simp -dsimp -implicitDefEqProofs (disch := omega) only [↓gpre, ↓bldS, ↓bld, ↓reduceIte, ↓gmore, gpost, gall, keepT, den, del, upd, dels, refs, hasTy, sArgs, aRefs, rvs, nodupB, memB, app, pTm, Ty.bytes, kbytes, Ty.zeroD, Ty.size, Ty.cmp, Ty.depth, Go.SE.look, reduceCtorEq, Nat.reduceAdd, Nat.reduceSub, Nat.reduceMul, Nat.reduceEqDiff, Nat.reduceLT, Nat.reduceLeDiff, Nat.reduceMod, Nat.reduceDiv, Nat.reducePow, Nat.reduceBEq, Int.reduceToNat, Int.reduceLE, Int.reduceLT, Int.reduceEq, Int.reduceAdd, Int.reduceMul, Int.reduceSub, Int.reduceNeg, Int.reduceNe, Try.TS]
      refine HIf_dec (fun h => ?_) (fun h4 => ?_)
      · simp -dsimp -implicitDefEqProofs (disch := omega) only [↓gpre, ↓bldS, ↓bld, ↓reduceIte, ↓gmore, gpost, gall, keepT, den, del, upd, dels, refs, hasTy, sArgs, aRefs, rvs, nodupB, memB, app, pTm, Ty.bytes, kbytes, Ty.zeroD, Ty.size, Ty.cmp, Ty.depth, Go.SE.look, reduceCtorEq, Nat.reduceAdd, Nat.reduceSub, Nat.reduceMul, Nat.reduceEqDiff, Nat.reduceLT, Nat.reduceLeDiff, Nat.reduceMod, Nat.reduceDiv, Nat.reducePow, Nat.reduceBEq, Int.reduceToNat, Int.reduceLE, Int.reduceLT, Int.reduceEq, Int.reduceAdd, Int.reduceMul, Int.reduceSub, Int.reduceNeg, Int.reduceNe, Try.TS]
        have h5 : most < num b a2 8 := by omega
        have h6 : ¬ num b a2 8 < 4294967296 := by omega
        simp [fin, h5, h6]
      simp -dsimp -implicitDefEqProofs (disch := omega) only [↓gpre, ↓bldS, ↓bld, ↓reduceIte, ↓gmore, gpost, gall, keepT, den, del, upd, dels, refs, hasTy, sArgs, aRefs, rvs, nodupB, memB, app, pTm, Ty.bytes, kbytes, Ty.zeroD, Ty.size, Ty.cmp, Ty.depth, Go.SE.look, reduceCtorEq, Nat.reduceAdd, Nat.reduceSub, Nat.reduceMul, Nat.reduceEqDiff, Nat.reduceLT, Nat.reduceLeDiff, Nat.reduceMod, Nat.reduceDiv, Nat.reducePow, Nat.reduceBEq, Int.reduceToNat, Int.reduceLE, Int.reduceLT, Int.reduceEq, Int.reduceAdd, Int.reduceMul, Int.reduceSub, Int.reduceNeg, Int.reduceNe, Try.TS]
      have h5 : ¬ most < num b a2 8 := by omega
      have h6 : ¬ num b a2 8 < 4294967296 := by omega
      simp [fin, h5, h6]
  have hz : sizeR b a most = fin (num b a 1, (a : Int) + 1, 0) 0 most := by
    unfold sizeR
    rw [hg, if_neg (fun h => h rfl)]
    simp [show ¬ num b a 1 = 253 by omega, show ¬ num b a 1 = 254 by omega, show ¬ num b a 1 = 255 by omega]
  rw [hz]
  simp -dsimp -implicitDefEqProofs (disch := omega) only [↓gpre, ↓bldS, ↓bld, ↓reduceIte, ↓gmore, gpost, gall, keepT, den, del, upd, dels, refs, hasTy, sArgs, aRefs, rvs, nodupB, memB, app, pTm, Ty.bytes, kbytes, Ty.zeroD, Ty.size, Ty.cmp, Ty.depth, Go.SE.look, reduceCtorEq, Nat.reduceAdd, Nat.reduceSub, Nat.reduceMul, Nat.reduceEqDiff, Nat.reduceLT, Nat.reduceLeDiff, Nat.reduceMod, Nat.reduceDiv, Nat.reducePow, Nat.reduceBEq, Int.reduceToNat, Int.reduceLE, Int.reduceLT, Int.reduceEq, Int.reduceAdd, Int.reduceMul, Int.reduceSub, Int.reduceNeg, Int.reduceNe, Try.TS]
  refine HIf_dec (fun h => ?_) (fun h4 => ?_)
  · simp -dsimp -implicitDefEqProofs (disch := omega) only [↓gpre, ↓bldS, ↓bld, ↓reduceIte, ↓gmore, gpost, gall, keepT, den, del, upd, dels, refs, hasTy, sArgs, aRefs, rvs, nodupB, memB, app, pTm, Ty.bytes, kbytes, Ty.zeroD, Ty.size, Ty.cmp, Ty.depth, Go.SE.look, reduceCtorEq, Nat.reduceAdd, Nat.reduceSub, Nat.reduceMul, Nat.reduceEqDiff, Nat.reduceLT, Nat.reduceLeDiff, Nat.reduceMod, Nat.reduceDiv, Nat.reducePow, Nat.reduceBEq, Int.reduceToNat, Int.reduceLE, Int.reduceLT, Int.reduceEq, Int.reduceAdd, Int.reduceMul, Int.reduceSub, Int.reduceNeg, Int.reduceNe, Try.TS]
    have h5 : most < num b a 1 := by omega
    simp [fin, h5]
  simp -dsimp -implicitDefEqProofs (disch := omega) only [↓gpre, ↓bldS, ↓bld, ↓reduceIte, ↓gmore, gpost, gall, keepT, den, del, upd, dels, refs, hasTy, sArgs, aRefs, rvs, nodupB, memB, app, pTm, Ty.bytes, kbytes, Ty.zeroD, Ty.size, Ty.cmp, Ty.depth, Go.SE.look, reduceCtorEq, Nat.reduceAdd, Nat.reduceSub, Nat.reduceMul, Nat.reduceEqDiff, Nat.reduceLT, Nat.reduceLeDiff, Nat.reduceMod, Nat.reduceDiv, Nat.reducePow, Nat.reduceBEq, Int.reduceToNat, Int.reduceLE, Int.reduceLT, Int.reduceEq, Int.reduceAdd, Int.reduceMul, Int.reduceSub, Int.reduceNeg, Int.reduceNe, Try.TS]
  have h5 : ¬ most < num b a 1 := by omega
  simp [fin, h5]
end Go.Proofs
