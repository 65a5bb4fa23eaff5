/- Numbers of 32 bytes: the reference; scalars. -/
import Derived.Test.YtmafojaagmneoaaGrF
set_option linter.unusedVariables false
set_option linter.unusedSimpArgs false
set_option linter.constructorNameAsVariable false
namespace Go.Proofs
open Go.SE

theorem shl_byte' (v i : Nat) (hv : v < 256) (hi : i < 8) : IntKind.u64.wrap ((v : Int) * 2 ^ min (8 * (i : Int)).toNat IntKind.u64.bits) = ((v * 256 ^ i : Nat) : Int) := by
  have h1 : min (8 * (i : Int)).toNat IntKind.u64.bits = 8 * i := by
    show min (8 * (i : Int)).toNat 64 = 8 * i
    omega
  rw [h1, show ((2 : Int) ^ (8 * i)) = ((256 ^ i : Nat) : Int) by rw [Int.pow_mul]; exact (Int.natCast_pow 256 i).symm]
  rw [mulN]
  refine wrapN _ ?_
  have h2 : (256 : Nat) ^ i ≤ 256 ^ 7 := Nat.pow_le_pow_right (by omega) (by omega)
  have h3 : (256 : Nat) ^ 7 = 72057594037927936 := by decide
  have h4 : v * 256 ^ i ≤ 255 * 256 ^ 7 := Nat.mul_le_mul (by omega) h2
  omega

def wrf (d : List D) (i k : Nat) : Nat := wrd d i k * 256 ^ (8 - min 8 (i - 8 * (3 - k)))
theorem wrf_other {d : List D} {i k : Nat} (hk : k < 4) (h : k ≠ 3 - i / 8) : wrf d (i + 1) k = wrf d i k := by
  unfold wrf
  rw [wrd_other hk h]
  congr 2
  omega
theorem or_high {a b m : Nat} (hb : b < 256) (hm : m < 8) : (a * 256 ^ (8 - m)) ||| (b * 256 ^ (7 - m)) = (a * 256 + b) * 256 ^ (8 - (m + 1)) := by
  have e : (256 : Nat) ^ (8 - m) = 2 ^ (8 * (8 - m)) := by rw [Nat.pow_mul]
  have e2 : (256 : Nat) ^ (8 - m) = 256 * 256 ^ (7 - m) := by rw [show 8 - m = 7 - m + 1 by omega, Nat.pow_succ, Nat.mul_comm]
  have hlt : b * 256 ^ (7 - m) < 2 ^ (8 * (8 - m)) := by
    rw [← e, e2]
    exact Nat.mul_lt_mul_of_pos_right hb (Nat.pow_pos (by omega))
  have := Nat.two_pow_add_eq_or_of_lt hlt a
  rw [← e, Nat.mul_comm] at this
  rw [← this, e2, show 8 - (m + 1) = 7 - m by omega, Nat.add_mul, Nat.mul_assoc]
theorem wrf_step {d : List D} (h : BY d) {i : Nat} (hi : i < 32) : wrf d i (3 - i / 8) ||| (byt d i * 256 ^ (7 - i % 8)) = wrf d (i + 1) (3 - i / 8) := by
  have hb := h.lt i
  unfold wrf
  rw [wrd_step hi, show min 8 (i - 8 * (3 - (3 - i / 8))) = i % 8 by omega, show min 8 (i + 1 - 8 * (3 - (3 - i / 8))) = i % 8 + 1 by omega, or_high hb (by omega)]
theorem wrf_lt {d : List D} (h : BY d) (i k : Nat) : wrf d i k < 18446744073709551616 := by
  unfold wrf wrd
  generalize hm : min 8 (i - 8 * (3 - k)) = m
  have h1 := bev_lt h (8 * (3 - k)) m
  have e : (256 : Nat) ^ m * 256 ^ (8 - m) = 18446744073709551616 := by rw [← Nat.pow_add, show m + (8 - m) = 8 by omega]
  rw [← e]
  exact Nat.mul_lt_mul_of_pos_right h1 (Nat.pow_pos (by omega))
def wf (d : List D) (i : Nat) : D := nl [wrf d i 0, wrf d i 1, wrf d i 2, wrf d i 3]
theorem wf_len (d : List D) (i : Nat) : (wf d i).list.length = 4 := rfl
theorem wf_at (d : List D) (i : Nat) {k : Nat} (hk : k < 4) : D.at (wf d i) k = .n (wrf d i k) := by
  rw [wf, nl_at]
  rcases (show k = 0 ∨ k = 1 ∨ k = 2 ∨ k = 3 by omega) with rfl | rfl | rfl | rfl <;> rfl
theorem wf_set {d : List D} {i : Nat} (hi : i < 32) : D.l ((wf d i).list.set (3 - i / 8) (.n ((wrf d (i + 1) (3 - i / 8) : Nat) : Int))) = wf d (i + 1) := by
  rw [wf, nl_set, wf]
  congr 1
  have ho := @wrf_other d i
  rcases (show i / 8 = 3 ∨ i / 8 = 2 ∨ i / 8 = 1 ∨ i / 8 = 0 by omega) with h | h | h | h <;> rw [h] at ho ⊢ <;> simp only [Nat.sub_self, List.set_cons_zero, List.set_cons_succ, show 3 - 2 = 1 from rfl, show 3 - 1 = 2 from rfl, show 3 - 0 = 3 from rfl]
  · rw [ho (k := 1) (by omega) (by omega), ho (k := 2) (by omega) (by omega), ho (k := 3) (by omega) (by omega)]
  · rw [ho (k := 0) (by omega) (by omega), ho (k := 2) (by omega) (by omega), ho (k := 3) (by omega) (by omega)]
  · rw [ho (k := 0) (by omega) (by omega), ho (k := 1) (by omega) (by omega), ho (k := 3) (by omega) (by omega)]
  · rw [ho (k := 0) (by omega) (by omega), ho (k := 1) (by omega) (by omega), ho (k := 2) (by omega) (by omega)]
theorem wf_done {d : List D} (h : BY d) : wf d 32 = u256 (fb d) := by
  rw [← wl_done h, wf, wl]
  simp [wrf]
theorem wf_zero (d : List D) : wf d 0 = .l [.n 0, .n 0, .n 0, .n 0] := by
  simp [wf, wrf, wrd, bev, nl]
theorem sub31 {i : Nat} (h : i < 32) : (31 : Int) - (i : Int) = ((31 - i : Nat) : Int) := by omega
theorem tm8 {a : Nat} : (a : Int).tmod 8 = ((a % 8 : Nat) : Int) := rfl
theorem d31 {i : Nat} (h : i < 32) : (31 - i) / 8 = 3 - i / 8 := by omega
theorem m31 {i : Nat} (h : i < 32) : (31 - i) % 8 = 7 - i % 8 := by omega

set_option maxHeartbeats 2000000 in
theorem wfromBytesRef (d : List D) (hB : BY d) (hd : d.length = 32) : SCall Try.prog 58 [(.arr 32 (.int .u8), .l d)] (fun rs => rs = [.d (.arr 4 (.int .u64)) (u256 (fb d))]) := by
  refine scall_intro (n := 27) (rl := [.cell 2 24]) (us := [24]) Try.hT Try.func58 rfl rfl rfl rfl rfl (Nat.le_of_ble_eq_true rfl) ?_
  intro w0
  simp -dsimp -implicitDefEqProofs (disch := omega) only [↓gpre, ↓bldS, ↓bld, ↓reduceIte, ↓gmore, gpost, gall, keepT, den, del, upd, dels, refs, hasTy, sArgs, aRefs, rvs, nodupB, memB, app, pTm, Ty.bytes, kbytes, Ty.zeroD, Ty.size, Ty.cmp, Ty.depth, Go.SE.look, reduceCtorEq, Nat.reduceAdd, Nat.reduceSub, Nat.reduceMul, Nat.reduceEqDiff, Nat.reduceLT, Nat.reduceLeDiff, Nat.reduceMod, Nat.reduceDiv, Nat.reducePow, Nat.reduceBEq, Int.reduceToNat, Int.reduceLE, Int.reduceLT, Int.reduceEq, Int.reduceAdd, Int.reduceMul, Int.reduceSub, Int.reduceNeg, Int.reduceNe, Try.TS, rep4]
  refine sloop Try.hT (α := Nat) (fun i => ⟨27, [(6, .v (.d (.int .i64) (.n i))), (3, .v (.ptr 2 [])), (2, .v (.ptr 1 [])), (1, .v (.ptr 0 []))], [(0, ⟨.arr 32 (.int .u8), .d (.arr 32 (.int .u8)) (.l d)⟩), (1, ⟨.arr 4 (.int .u64), .d (.arr 4 (.int .u64)) (.l [.n 0, .n 0, .n 0, .n 0])⟩), (2, ⟨.arr 4 (.int .u64), .d (.arr 4 (.int .u64)) (wf d i)⟩)], 3⟩) (fun i => i ≤ 32) (fun i => 32 - i) 0 ?_ (Nat.zero_le _) ?_
  · refine sub_ren w0 [(0, 0), (1, 1), (2, 2)] rfl (by simp [keysLt]) rfl ?_ ?_
    · simp [renTm, Go.SE.look, renTV, renSV]
    · simp [renOb, Go.SE.look, renSV, wf_zero]
  · intro i hi
    simp -dsimp -implicitDefEqProofs (disch := omega) only [↓gpre, ↓bldS, ↓bld, ↓reduceIte, ↓gmore, gpost, gall, keepT, den, del, upd, dels, refs, hasTy, sArgs, aRefs, rvs, nodupB, memB, app, pTm, Ty.bytes, kbytes, Ty.zeroD, Ty.size, Ty.cmp, Ty.depth, Go.SE.look, reduceCtorEq, Nat.reduceAdd, Nat.reduceSub, Nat.reduceMul, Nat.reduceEqDiff, Nat.reduceLT, Nat.reduceLeDiff, Nat.reduceMod, Nat.reduceDiv, Nat.reducePow, Nat.reduceBEq, Int.reduceToNat, Int.reduceLE, Int.reduceLT, Int.reduceEq, Int.reduceAdd, Int.reduceMul, Int.reduceSub, Int.reduceNeg, Int.reduceNe, Try.TS, rep4]
    refine HIf_dec (a := ()) (b := ()) (fun h => ?_) (fun h => ?_)
    · have hlt := hB.lt i
      have h32 : i < 32 := by omega
      have hwl := wrf_lt hB i (3 - i / 8)
      have hs := shl_byte' (byt d i) (7 - i % 8) hlt (by omega)
      have hor : bits .or .u64 ((wrf d i (3 - i / 8) : Nat) : Int) ((byt d i * 256 ^ (7 - i % 8) : Nat) : Int) = ((wrf d (i + 1) (3 - i / 8) : Nat) : Int) := by
        rw [u64_or_nat _ _ hwl ?_, wrf_step hB h32]
        have h2 : (256 : Nat) ^ (7 - i % 8) ≤ 256 ^ 7 := Nat.pow_le_pow_right (by omega) (by omega)
        have h3 : (256 : Nat) ^ 7 = 72057594037927936 := by decide
        have h4 : byt d i * 256 ^ (7 - i % 8) ≤ 255 * 256 ^ 7 := Nat.mul_le_mul (by omega) h2
        omega
      simp -dsimp -implicitDefEqProofs (disch := omega) only [↓gpre, ↓bldS, ↓bld, ↓reduceIte, ↓gmore, gpost, gall, keepT, den, del, upd, dels, refs, hasTy, sArgs, aRefs, rvs, nodupB, memB, app, pTm, Ty.bytes, kbytes, Ty.zeroD, Ty.size, Ty.cmp, Ty.depth, Go.SE.look, reduceCtorEq, Nat.reduceAdd, Nat.reduceSub, Nat.reduceMul, Nat.reduceEqDiff, Nat.reduceLT, Nat.reduceLeDiff, Nat.reduceMod, Nat.reduceDiv, Nat.reducePow, Nat.reduceBEq, Int.reduceToNat, Int.reduceLE, Int.reduceLT, Int.reduceEq, Int.reduceAdd, Int.reduceMul, Int.reduceSub, Int.reduceNeg, Int.reduceNe, Try.TS, sub31 h32]
      refine sdraw Try.hT (by kernel_rfl) [14] [0, 1, 2, 3, 4, 5, 6, 7, 8, 9, 10, 11, 12, 13, 14] (by kernel_rfl) (by kernel_rfl) (by kernel_rfl) ?_; simp only [pickO, List.getElem?_toArray, List.getElem?_cons_zero, List.getElem?_cons_succ]
      simp -dsimp -implicitDefEqProofs (disch := omega) only [↓gpre, ↓bldS, ↓bld, ↓reduceIte, ↓gmore, gpost, gall, keepT, den, del, upd, dels, refs, hasTy, sArgs, aRefs, rvs, nodupB, memB, app, pTm, Ty.bytes, kbytes, Ty.zeroD, Ty.size, Ty.cmp, Ty.depth, Go.SE.look, reduceCtorEq, Nat.reduceAdd, Nat.reduceSub, Nat.reduceMul, Nat.reduceEqDiff, Nat.reduceLT, Nat.reduceLeDiff, Nat.reduceMod, Nat.reduceDiv, Nat.reducePow, Nat.reduceBEq, Int.reduceToNat, Int.reduceLE, Int.reduceLT, Int.reduceEq, Int.reduceAdd, Int.reduceMul, Int.reduceSub, Int.reduceNeg, Int.reduceNe, Try.TS, sub31 h32, td8, tm8, d31 h32, m31 h32, hB.int, hB.u64, wf_at d i (show 3 - i / 8 < 4 by omega), hs, hor, wf_set (d := d) h32]
      repeat (refine And.intro (by omega) ?_)
      refine ⟨i + 1, by omega, by omega, ?_⟩
      refine sub_ren w0 [(0, 0), (1, 1), (2, 2)] rfl (by simp [keysLt]) rfl ?_ ?_
      · simp [renTm, Go.SE.look, renTV, renSV]
      · simp [renOb, Go.SE.look, renSV]
    · simp -dsimp -implicitDefEqProofs (disch := omega) only [↓gpre, ↓bldS, ↓bld, ↓reduceIte, ↓gmore, gpost, gall, keepT, den, del, upd, dels, refs, hasTy, sArgs, aRefs, rvs, nodupB, memB, app, pTm, Ty.bytes, kbytes, Ty.zeroD, Ty.size, Ty.cmp, Ty.depth, Go.SE.look, reduceCtorEq, Nat.reduceAdd, Nat.reduceSub, Nat.reduceMul, Nat.reduceEqDiff, Nat.reduceLT, Nat.reduceLeDiff, Nat.reduceMod, Nat.reduceDiv, Nat.reducePow, Nat.reduceBEq, Int.reduceToNat, Int.reduceLE, Int.reduceLT, Int.reduceEq, Int.reduceAdd, Int.reduceMul, Int.reduceSub, Int.reduceNeg, Int.reduceNe, Try.TS]
      have e : i = 32 := by omega
      subst e
      rw [wf_done hB]
end Go.Proofs
