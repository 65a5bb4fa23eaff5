/- Texts of bytes. -/
import Derived.Test.YtbdalbibdkipcaaCoG
set_option linter.unusedVariables false
set_option linter.unusedSimpArgs false
set_option linter.constructorNameAsVariable false
namespace Go.Proofs
open Go.SE

/-- A digit of base 16. -/
def hx (n : Nat) : Nat := if n < 10 then 48 + n else 87 + n
def hexN (b : List D) : Nat → List D
  | 0 => []
  | i + 1 => hexN b i ++ [.n (hx (byt b i / 16) : Nat), .n (hx (byt b i % 16) : Nat)]
theorem hexN_length (b : List D) (i : Nat) : (hexN b i).length = 2 * i := by
  induction i with
  | zero => rfl
  | succ i ih => simp [hexN, ih]; omega

theorem shr4 (n : Nat) : ((n : Int)).fdiv (2 ^ min 4 IntKind.u8.bits) = ((n / 16 : Nat) : Int) := by
  rw [show ((2 : Int) ^ min 4 IntKind.u8.bits) = ((16 : Nat) : Int) from rfl, Int.fdiv_eq_ediv_of_nonneg _ (Int.natCast_nonneg _)]
  rfl
theorem and15 {n : Nat} (h : n < 256) : bits .and .u8 (n : Int) 15 = ((n % 16 : Nat) : Int) := by
  have := u8_and_nat n 15 h (by omega)
  rw [show ((15 : Nat) : Int) = 15 from rfl] at this
  rw [this]
  congr 1
  exact Nat.and_two_pow_sub_one_eq_mod n 4
def digs : ByteArray := { data := #[48, 49, 50, 51, 52, 53, 54, 55, 56, 57, 97, 98, 99, 100, 101, 102] }
theorem digs_size : ByteArray.size { data := #[48, 49, 50, 51, 52, 53, 54, 55, 56, 57, 97, 98, 99, 100, 101, 102] } = 16 := rfl
theorem digs_at : ∀ n : Nat, n < 16 → (([48, 49, 50, 51, 52, 53, 54, 55, 56, 57, 97, 98, 99, 100, 101, 102] : List UInt8).getD n 0).toNat = hx n := by decide

set_option maxHeartbeats 2000000 in
theorem hex' (b : List D) (hB : BY b) (hb : b.length ≤ 2 ^ 40) : SCall Try.prog 44 [(.sl (.int .u8), .l b)] (fun rs => rs = [.d .str (.s (toBA (.l (hexN b b.length))))]) := by
  refine scall_intro (n := 28) (rl := [.tmp 2]) (us := [9]) Try.hT Try.func44 rfl rfl rfl rfl rfl (Nat.le_of_ble_eq_true rfl) ?_
  intro w0
  simp -dsimp -implicitDefEqProofs (disch := omega) only [↓gpre, ↓bldS, ↓bld, ↓reduceIte, ↓gmore, gpost, gall, keepT, den, del, upd, dels, refs, hasTy, sArgs, aRefs, rvs, nodupB, memB, app, pTm, Ty.bytes, kbytes, Ty.zeroD, Ty.size, Ty.cmp, Ty.depth, Go.SE.look, reduceCtorEq, Nat.reduceAdd, Nat.reduceSub, Nat.reduceMul, Nat.reduceEqDiff, Nat.reduceLT, Nat.reduceLeDiff, Nat.reduceMod, Nat.reduceDiv, Nat.reducePow, Nat.reduceBEq, Int.reduceToNat, Int.reduceLE, Int.reduceLT, Int.reduceEq, Int.reduceAdd, Int.reduceMul, Int.reduceSub, Int.reduceNeg, Int.reduceNe, Try.TS]
  repeat (refine And.intro (by omega) ?_)
  refine sloop Try.hT (α := Nat) (fun i => ⟨28, [(12, .v (.d (.int .i64) (.n i))), (11, .v (.d (.int .i64) (.n b.length))), (10, .v (.d (.sl (.int .u8)) (.l b))), (3, .v (.ref 0 [] 0 (hexN b i).length))], [(0, ⟨.arr (hexN b i).length (.int .u8), .d (.arr (hexN b i).length (.int .u8)) (.l (hexN b i))⟩)], 1⟩) (fun i => i ≤ b.length) (fun i => b.length - i) 0 ?_ (Nat.zero_le _) ?_
  · refine sub_ren w0 [(0, 0)] rfl (by simp [keysLt]) rfl ?_ ?_
    · simp [renTm, Go.SE.look, renTV, renSV, hexN]
    · simp [renOb, Go.SE.look, renSV, hexN]
  · intro i hi
    simp -dsimp -implicitDefEqProofs (disch := omega) only [↓gpre, ↓bldS, ↓bld, ↓reduceIte, ↓gmore, gpost, gall, keepT, den, del, upd, dels, refs, hasTy, sArgs, aRefs, rvs, nodupB, memB, app, pTm, Ty.bytes, kbytes, Ty.zeroD, Ty.size, Ty.cmp, Ty.depth, Go.SE.look, reduceCtorEq, Nat.reduceAdd, Nat.reduceSub, Nat.reduceMul, Nat.reduceEqDiff, Nat.reduceLT, Nat.reduceLeDiff, Nat.reduceMod, Nat.reduceDiv, Nat.reducePow, Nat.reduceBEq, Int.reduceToNat, Int.reduceLE, Int.reduceLT, Int.reduceEq, Int.reduceAdd, Int.reduceMul, Int.reduceSub, Int.reduceNeg, Int.reduceNe, Try.TS]
    refine HIf_dec (fun h => ?_) (fun h => ?_)
    · have hlt := hB.lt i
      simp -dsimp -implicitDefEqProofs (disch := omega) only [↓gpre, ↓bldS, ↓bld, ↓reduceIte, ↓gmore, gpost, gall, keepT, den, del, upd, dels, refs, hasTy, sArgs, aRefs, rvs, nodupB, memB, app, pTm, Ty.bytes, kbytes, Ty.zeroD, Ty.size, Ty.cmp, Ty.depth, Go.SE.look, reduceCtorEq, Nat.reduceAdd, Nat.reduceSub, Nat.reduceMul, Nat.reduceEqDiff, Nat.reduceLT, Nat.reduceLeDiff, Nat.reduceMod, Nat.reduceDiv, Nat.reducePow, Nat.reduceBEq, Int.reduceToNat, Int.reduceLE, Int.reduceLT, Int.reduceEq, Int.reduceAdd, Int.reduceMul, Int.reduceSub, Int.reduceNeg, Int.reduceNe, Try.TS]
      repeat (refine And.intro (by omega) ?_)
      refine sdraw Try.hT (by kernel_rfl) [8] [0, 1, 2, 3, 4, 5, 6, 7, 8, 9] (by kernel_rfl) (by kernel_rfl) (by kernel_rfl) ?_; simp only [pickO, List.getElem?_toArray, List.getElem?_cons_zero, List.getElem?_cons_succ]
      simp -dsimp -implicitDefEqProofs (disch := omega) only [↓gpre, ↓bldS, ↓bld, ↓reduceIte, ↓gmore, gpost, gall, keepT, den, del, upd, dels, refs, hasTy, sArgs, aRefs, rvs, nodupB, memB, app, pTm, Ty.bytes, kbytes, Ty.zeroD, Ty.size, Ty.cmp, Ty.depth, Go.SE.look, reduceCtorEq, Nat.reduceAdd, Nat.reduceSub, Nat.reduceMul, Nat.reduceEqDiff, Nat.reduceLT, Nat.reduceLeDiff, Nat.reduceMod, Nat.reduceDiv, Nat.reducePow, Nat.reduceBEq, Int.reduceToNat, Int.reduceLE, Int.reduceLT, Int.reduceEq, Int.reduceAdd, Int.reduceMul, Int.reduceSub, Int.reduceNeg, Int.reduceNe, Try.TS, hB.int, shr4, and15 hlt, digs_size, digs_at _ (show byt b i / 16 < 16 by omega), digs_at _ (show byt b i % 16 < 16 by omega)]
      have hl := hexN_length b i
      repeat (refine And.intro (by omega) ?_)
      refine ⟨i + 1, by omega, by omega, ?_⟩
      refine sub_ren w0 [(0, 2)] rfl (by simp [keysLt]) rfl ?_ ?_
      · simp [renTm, Go.SE.look, renTV, renSV, hexN]
      · simp [renOb, Go.SE.look, renSV, hexN]
    · simp -dsimp -implicitDefEqProofs (disch := omega) only [↓gpre, ↓bldS, ↓bld, ↓reduceIte, ↓gmore, gpost, gall, keepT, den, del, upd, dels, refs, hasTy, sArgs, aRefs, rvs, nodupB, memB, app, pTm, Ty.bytes, kbytes, Ty.zeroD, Ty.size, Ty.cmp, Ty.depth, Go.SE.look, reduceCtorEq, Nat.reduceAdd, Nat.reduceSub, Nat.reduceMul, Nat.reduceEqDiff, Nat.reduceLT, Nat.reduceLeDiff, Nat.reduceMod, Nat.reduceDiv, Nat.reducePow, Nat.reduceBEq, Int.reduceToNat, Int.reduceLE, Int.reduceLT, Int.reduceEq, Int.reduceAdd, Int.reduceMul, Int.reduceSub, Int.reduceNeg, Int.reduceNe, Try.TS]
      have e : i = b.length := by omega
      subst e
      rfl
end Go.Proofs
