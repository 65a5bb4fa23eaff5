/- Numbers of 32 bytes. -/
import Derived.Test.YtmafojaagmneoaaGrE
import Derived.Test.YtmafojaagmneoaaBy
set_option linter.unusedVariables false
set_option linter.unusedSimpArgs false
set_option linter.constructorNameAsVariable false
namespace Go.Proofs
open Go.SE

/-- The number that m bytes from s are, the first one highest. -/
def bev (d : List D) (s : Nat) : Nat → Nat
  | 0 => 0
  | m + 1 => bev d s m * 256 + byt d (s + m)
theorem bev_lt {d : List D} (h : BY d) (s : Nat) : ∀ m, bev d s m < 256 ^ m
  | 0 => by simp [bev]
  | m + 1 => by
    have h1 := h.lt (s + m)
    have h2 := bev_lt h s m
    rw [bev, Nat.pow_succ]
    omega
theorem bev8 {d : List D} (h : BY d) (s : Nat) {m : Nat} (hm : m ≤ 8) : bev d s m < 18446744073709551616 :=
  Nat.lt_of_lt_of_le (bev_lt h s m) (Nat.le_trans (Nat.pow_le_pow_right (by omega) hm) (by decide))
/-- The words after i bytes. -/
def wrd (d : List D) (i k : Nat) : Nat := bev d (8 * (3 - k)) (min 8 (i - 8 * (3 - k)))
theorem wrd_step {d : List D} {i : Nat} (hi : i < 32) : wrd d (i + 1) (3 - i / 8) = wrd d i (3 - i / 8) * 256 + byt d i := by
  unfold wrd
  have e1 : 3 - (3 - i / 8) = i / 8 := by omega
  have e2 : min 8 (i + 1 - 8 * (i / 8)) = i - 8 * (i / 8) + 1 := by omega
  have e3 : min 8 (i - 8 * (i / 8)) = i - 8 * (i / 8) := by omega
  rw [e1, e2, e3, bev, show 8 * (i / 8) + (i - 8 * (i / 8)) = i by omega]
theorem wrd_other {d : List D} {i k : Nat} (hk : k < 4) (h : k ≠ 3 - i / 8) : wrd d (i + 1) k = wrd d i k := by
  unfold wrd
  congr 1
  omega
def fb (d : List D) : Nat := wrd d 32 0 + 18446744073709551616 * wrd d 32 1 + 340282366920938463463374607431768211456 * wrd d 32 2 + 6277101735386680763835789423207666416102355444464034512896 * wrd d 32 3

def wl (d : List D) (i : Nat) : D := nl [wrd d i 0, wrd d i 1, wrd d i 2, wrd d i 3]
theorem wl_len (d : List D) (i : Nat) : (wl d i).list.length = 4 := rfl
theorem wl_at (d : List D) (i : Nat) {k : Nat} (hk : k < 4) : D.at (wl d i) k = .n (wrd d i k) := by
  rw [wl, nl_at]
  rcases (show k = 0 ∨ k = 1 ∨ k = 2 ∨ k = 3 by omega) with rfl | rfl | rfl | rfl <;> rfl
theorem wl_set {d : List D} {i : Nat} (hi : i < 32) : D.l ((wl d i).list.set (3 - i / 8) (.n ((wrd d i (3 - i / 8) * 256 + byt d i : Nat) : Int))) = wl d (i + 1) := by
  rw [← wrd_step hi, wl, nl_set, wl]
  congr 1
  have ho := @wrd_other d i
  rcases (show i / 8 = 3 ∨ i / 8 = 2 ∨ i / 8 = 1 ∨ i / 8 = 0 by omega) with h | h | h | h <;> rw [h] at ho ⊢ <;> simp only [Nat.sub_self, List.set_cons_zero, List.set_cons_succ, show 3 - 2 = 1 from rfl, show 3 - 1 = 2 from rfl, show 3 - 0 = 3 from rfl]
  · rw [ho (k := 1) (by omega) (by omega), ho (k := 2) (by omega) (by omega), ho (k := 3) (by omega) (by omega)]
  · rw [ho (k := 0) (by omega) (by omega), ho (k := 2) (by omega) (by omega), ho (k := 3) (by omega) (by omega)]
  · rw [ho (k := 0) (by omega) (by omega), ho (k := 1) (by omega) (by omega), ho (k := 3) (by omega) (by omega)]
  · rw [ho (k := 0) (by omega) (by omega), ho (k := 1) (by omega) (by omega), ho (k := 2) (by omega) (by omega)]
theorem wl_done {d : List D} (h : BY d) : wl d 32 = u256 (fb d) :=
  u256_mk (bev8 h _ (by omega)) (bev8 h _ (by omega)) (bev8 h _ (by omega)) (bev8 h _ (by omega)) rfl
theorem fb_lt {d : List D} (h : BY d) : fb d < 115792089237316195423570985008687907853269984665640564039457584007913129639936 := by
  have h0 := bev8 h (8 * (3 - 0)) (m := min 8 (32 - 8 * (3 - 0))) (by omega)
  have h1 := bev8 h (8 * (3 - 1)) (m := min 8 (32 - 8 * (3 - 1))) (by omega)
  have h2 := bev8 h (8 * (3 - 2)) (m := min 8 (32 - 8 * (3 - 2))) (by omega)
  have h3 := bev8 h (8 * (3 - 3)) (m := min 8 (32 - 8 * (3 - 3))) (by omega)
  unfold fb wrd
  omega

theorem wl_zero (d : List D) : wl d 0 = .l [.n 0, .n 0, .n 0, .n 0] := rfl
theorem td8 {a : Nat} : (a : Int).tdiv 8 = ((a / 8 : Nat) : Int) := rfl
theorem sub3 {i : Nat} (h : i < 32) : (3 : Int) - ((i / 8 : Nat) : Int) = ((3 - i / 8 : Nat) : Int) := by omega
theorem sl8 {a : Nat} : IntKind.u64.wrap ((a : Int) * 2 ^ min 8 IntKind.u64.bits) = ((a * 256 % 18446744073709551616 : Nat) : Int) := by
  rw [show ((2 : Int) ^ min 8 IntKind.u64.bits) = ((256 : Nat) : Int) from rfl, mulN, wrapM]
theorem or8 {a b : Nat} (ha : a * 256 < 18446744073709551616) (hb : b < 256) : bits .or .u64 ((a * 256 % 18446744073709551616 : Nat) : Int) (b : Int) = ((a * 256 + b : Nat) : Int) := by
  rw [Nat.mod_eq_of_lt ha, u64_or_nat _ _ ha (by omega)]
  congr 1
  have := Nat.two_pow_add_eq_or_of_lt (i := 8) (b := b) hb a
  rw [show (2 : Nat) ^ 8 = 256 from rfl, Nat.mul_comm] at this
  exact this.symm

set_option maxHeartbeats 2000000 in
theorem wfromBytes (d : List D) (hB : BY d) (hd : d.length = 32) : SCall Try.prog 55 [(.arr 32 (.int .u8), .l d)] (fun rs => rs = [.d (.arr 4 (.int .u64)) (u256 (fb d))]) := by
  refine scall_intro (n := 26) (rl := [.cell 2 24]) (us := [24]) Try.hT Try.func55 rfl rfl rfl rfl rfl (Nat.le_of_ble_eq_true rfl) ?_
  intro w0
  simp -dsimp -implicitDefEqProofs (disch := omega) only [↓gpre, ↓bldS, ↓bld, ↓reduceIte, ↓gmore, gpost, gall, keepT, den, del, upd, dels, refs, hasTy, sArgs, aRefs, rvs, nodupB, memB, app, pTm, Ty.bytes, kbytes, Ty.zeroD, Ty.size, Ty.cmp, Ty.depth, Go.SE.look, reduceCtorEq, Nat.reduceAdd, Nat.reduceSub, Nat.reduceMul, Nat.reduceEqDiff, Nat.reduceLT, Nat.reduceLeDiff, Nat.reduceMod, Nat.reduceDiv, Nat.reducePow, Nat.reduceBEq, Int.reduceToNat, Int.reduceLE, Int.reduceLT, Int.reduceEq, Int.reduceAdd, Int.reduceMul, Int.reduceSub, Int.reduceNeg, Int.reduceNe, Try.TS, rep4]
  refine sloop Try.hT (α := Nat) (fun i => ⟨26, [(7, .v (.d (.int .i64) (.n i))), (6, .v (.d (.arr 32 (.int .u8)) (.l d))), (3, .v (.ptr 2 [])), (2, .v (.ptr 1 []))], [(1, ⟨.arr 4 (.int .u64), .d (.arr 4 (.int .u64)) (.l [.n 0, .n 0, .n 0, .n 0])⟩), (2, ⟨.arr 4 (.int .u64), .d (.arr 4 (.int .u64)) (wl d i)⟩)], 3⟩) (fun i => i ≤ 32) (fun i => 32 - i) 0 ?_ (Nat.zero_le _) ?_
  · refine sub_ren w0 [(1, 1), (2, 2)] rfl (by simp [keysLt]) rfl ?_ ?_
    · simp [renTm, Go.SE.look, renTV, renSV]
    · simp [renOb, Go.SE.look, renSV, wl_zero]
  · intro i hi
    simp -dsimp -implicitDefEqProofs (disch := omega) only [↓gpre, ↓bldS, ↓bld, ↓reduceIte, ↓gmore, gpost, gall, keepT, den, del, upd, dels, refs, hasTy, sArgs, aRefs, rvs, nodupB, memB, app, pTm, Ty.bytes, kbytes, Ty.zeroD, Ty.size, Ty.cmp, Ty.depth, Go.SE.look, reduceCtorEq, Nat.reduceAdd, Nat.reduceSub, Nat.reduceMul, Nat.reduceEqDiff, Nat.reduceLT, Nat.reduceLeDiff, Nat.reduceMod, Nat.reduceDiv, Nat.reducePow, Nat.reduceBEq, Int.reduceToNat, Int.reduceLE, Int.reduceLT, Int.reduceEq, Int.reduceAdd, Int.reduceMul, Int.reduceSub, Int.reduceNeg, Int.reduceNe, Try.TS, rep4]
    refine HIf_dec (a := ()) (b := ()) (fun h => ?_) (fun h => ?_)
    · have hlt := hB.lt i
      have hw : wrd d i (3 - i / 8) * 256 < 18446744073709551616 := by
        have := bev_lt hB (8 * (3 - (3 - i / 8))) (min 8 (i - 8 * (3 - (3 - i / 8))))
        have h2 : (256 : Nat) ^ min 8 (i - 8 * (3 - (3 - i / 8))) ≤ 256 ^ 7 := Nat.pow_le_pow_right (by omega) (by omega)
        have h3 : (256 : Nat) ^ 7 = 72057594037927936 := by decide
        unfold wrd
        omega
      simp -dsimp -implicitDefEqProofs (disch := omega) only [↓gpre, ↓bldS, ↓bld, ↓reduceIte, ↓gmore, gpost, gall, keepT, den, del, upd, dels, refs, hasTy, sArgs, aRefs, rvs, nodupB, memB, app, pTm, Ty.bytes, kbytes, Ty.zeroD, Ty.size, Ty.cmp, Ty.depth, Go.SE.look, reduceCtorEq, Nat.reduceAdd, Nat.reduceSub, Nat.reduceMul, Nat.reduceEqDiff, Nat.reduceLT, Nat.reduceLeDiff, Nat.reduceMod, Nat.reduceDiv, Nat.reducePow, Nat.reduceBEq, Int.reduceToNat, Int.reduceLE, Int.reduceLT, Int.reduceEq, Int.reduceAdd, Int.reduceMul, Int.reduceSub, Int.reduceNeg, Int.reduceNe, Try.TS, td8, sub3 (show i < 32 by omega), hB.int]
      repeat (refine And.intro (by omega) ?_)
      simp -dsimp -implicitDefEqProofs (disch := omega) only [↓gpre, ↓bldS, ↓bld, ↓reduceIte, ↓gmore, gpost, gall, keepT, den, del, upd, dels, refs, hasTy, sArgs, aRefs, rvs, nodupB, memB, app, pTm, Ty.bytes, kbytes, Ty.zeroD, Ty.size, Ty.cmp, Ty.depth, Go.SE.look, reduceCtorEq, Nat.reduceAdd, Nat.reduceSub, Nat.reduceMul, Nat.reduceEqDiff, Nat.reduceLT, Nat.reduceLeDiff, Nat.reduceMod, Nat.reduceDiv, Nat.reducePow, Nat.reduceBEq, Int.reduceToNat, Int.reduceLE, Int.reduceLT, Int.reduceEq, Int.reduceAdd, Int.reduceMul, Int.reduceSub, Int.reduceNeg, Int.reduceNe, Try.TS, td8, sub3 (show i < 32 by omega), hB.int, hB.u64, wl_at d i (show 3 - i / 8 < 4 by omega), sl8, or8 hw hlt, wl_set (d := d) (show i < 32 by omega)]
      refine ⟨i + 1, by omega, by omega, ?_⟩
      refine sub_ren w0 [(1, 1), (2, 2)] rfl (by simp [keysLt]) rfl ?_ ?_
      · simp [renTm, Go.SE.look, renTV, renSV]
      · simp [renOb, Go.SE.look, renSV]
    · simp -dsimp -implicitDefEqProofs (disch := omega) only [↓gpre, ↓bldS, ↓bld, ↓reduceIte, ↓gmore, gpost, gall, keepT, den, del, upd, dels, refs, hasTy, sArgs, aRefs, rvs, nodupB, memB, app, pTm, Ty.bytes, kbytes, Ty.zeroD, Ty.size, Ty.cmp, Ty.depth, Go.SE.look, reduceCtorEq, Nat.reduceAdd, Nat.reduceSub, Nat.reduceMul, Nat.reduceEqDiff, Nat.reduceLT, Nat.reduceLeDiff, Nat.reduceMod, Nat.reduceDiv, Nat.reducePow, Nat.reduceBEq, Int.reduceToNat, Int.reduceLE, Int.reduceLT, Int.reduceEq, Int.reduceAdd, Int.reduceMul, Int.reduceSub, Int.reduceNeg, Int.reduceNe, Try.TS]
      have e : i = 32 := by omega
      subst e
      rw [wl_done hB]
end Go.Proofs
