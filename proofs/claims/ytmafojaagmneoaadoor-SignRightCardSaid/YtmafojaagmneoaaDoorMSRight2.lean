/- Merged: WiE WiF WiG WiH WiI WiJ WiK WiL WiM. -/
import Derived.Lib.Mul64
import Derived.Laws.Bits64b
import Derived.Laws.BitsAllLaws
import Derived.Test.YtmafojaagmneoaaDoorMSRight1
set_option linter.unusedVariables false
set_option linter.unusedSimpArgs false
set_option linter.constructorNameAsVariable false
/- math/bits: products and lengths. -/
namespace Go.Proofs
open Go.SE

theorem maskN (a : Nat) (ha : a < 18446744073709551616) : bits .and .u64 (a : Int) 4294967295 = ((a % 4294967296 : Nat) : Int) := by
  have h := bits_and_u64_nat a 4294967295 ha (by omega)
  have e : a &&& 4294967295 = a % 4294967296 := Nat.and_two_pow_sub_one_eq_mod a 32
  rw [e] at h
  exact h
theorem mulN (a b : Nat) : (a : Int) * (b : Int) = ((a * b : Nat) : Int) := (Int.natCast_mul a b).symm
theorem addN (a b : Nat) : (a : Int) + (b : Int) = ((a + b : Nat) : Int) := (Int.natCast_add a b).symm
theorem wrapN (a : Nat) (ha : a < 18446744073709551616) : IntKind.u64.wrap (a : Int) = (a : Int) := IntWalk.u64_in _ (by omega)
theorem wrapM (a : Nat) : IntKind.u64.wrap (a : Int) = ((a % 18446744073709551616 : Nat) : Int) := by rw [IntKind.wrap_u64]; omega
theorem shrN {a k : Nat} (hk : k ≤ 64) : (a : Int).fdiv (2 ^ min k IntKind.u64.bits) = ((a / 2 ^ k : Nat) : Int) := by
  rw [Int.fdiv_eq_ediv_of_nonneg _ (Int.pow_nonneg (by decide)), show min k IntKind.u64.bits = k from Nat.min_eq_left hk]
  norm_cast
theorem shr32 {a : Nat} : (a : Int).fdiv (2 ^ min 32 IntKind.u64.bits) = ((a / 4294967296 : Nat) : Int) := shrN (by omega)
theorem shr16 {a : Nat} : (a : Int).fdiv (2 ^ min 16 IntKind.u64.bits) = ((a / 65536 : Nat) : Int) := shrN (by omega)
theorem shr8 {a : Nat} : (a : Int).fdiv (2 ^ min 8 IntKind.u64.bits) = ((a / 256 : Nat) : Int) := shrN (by omega)

set_option maxHeartbeats 1000000 in
theorem mul64 (x y : Nat) (hx : x < 18446744073709551616) (hy : y < 18446744073709551616) {K : List RV → Prop} (h : ∀ s d : Nat, s + 18446744073709551616 * d = x * y → s < 18446744073709551616 → d < 18446744073709551616 → K [.d (.int .u64) (.n d), .d (.int .u64) (.n s)]) :
    SCall Tryd.prog 113 [(.int .u64, .n x), (.int .u64, .n y)] K := by
  obtain ⟨bd, bt, bw, hhi⟩ := Lib.mul64_hi x y hx hy
  have ba := Lib.half_mul_le (a := x / 4294967296) (b := y / 4294967296) (by omega) (by omega)
  have bb := Lib.half_mul_le (a := x / 4294967296) (b := y % 4294967296) (by omega) (by omega)
  have bc := Lib.half_mul_le (a := x % 4294967296) (b := y / 4294967296) (by omega) (by omega)
  have ba' : x / 4294967296 * (y / 4294967296) < 18446744073709551616 := by omega
  have bb' : x / 4294967296 * (y % 4294967296) < 18446744073709551616 := by omega
  have bc' : x % 4294967296 * (y / 4294967296) < 18446744073709551616 := by omega
  have bh1 : x / 4294967296 * (y / 4294967296) + (x / 4294967296 * (y % 4294967296) + x % 4294967296 * (y % 4294967296) / 4294967296) / 4294967296 < 18446744073709551616 := by omega
  have bh : x / 4294967296 * (y / 4294967296) + (x / 4294967296 * (y % 4294967296) + x % 4294967296 * (y % 4294967296) / 4294967296) / 4294967296 + ((x / 4294967296 * (y % 4294967296) + x % 4294967296 * (y % 4294967296) / 4294967296) % 4294967296 + x % 4294967296 * (y / 4294967296)) / 4294967296 < 18446744073709551616 := by omega
  refine scall_intro (n := 51) (rl := [.tmp 4, .tmp 5]) (us := [43, 43]) Tryd.hT Tryd.func113 rfl rfl rfl rfl rfl (Nat.le_of_ble_eq_true rfl) ?_
  intro w0
  simp -dsimp -implicitDefEqProofs (disch := omega) only [↓gpre, ↓bldS, ↓bld, ↓reduceIte, ↓gmore, gpost, gall, keepT, den, del, upd, dels, refs, hasTy, sArgs, aRefs, rvs, nodupB, memB, app, pTm, Ty.bytes, kbytes, Ty.zeroD, Ty.size, Ty.cmp, Ty.depth, Go.SE.look, reduceCtorEq, Nat.reduceAdd, Nat.reduceSub, Nat.reduceMul, Nat.reduceEqDiff, Nat.reduceLT, Nat.reduceLeDiff, Nat.reduceMod, Nat.reduceDiv, Nat.reducePow, Nat.reduceBEq, Int.reduceToNat, Int.reduceLE, Int.reduceLT, Int.reduceEq, Int.reduceAdd, Int.reduceMul, Int.reduceSub, Int.reduceNeg, Int.reduceNe, Tryd.TS, Tryd.ev_g0, Tryd.ev1_g0, Tryd.ev_g1, Tryd.ev1_g1]
  simp only [maskN x hx, maskN y hy, shr32, mulN, addN, wrapN _ bd, wrapN _ bb', wrapN _ bt, maskN _ bt, wrapN _ bc', wrapN _ bw, wrapN _ ba', wrapN _ bh1, wrapN _ bh, wrapM (x * y)]
  rw [hhi]
  have hlt : x * y < 18446744073709551616 * 18446744073709551616 := Nat.mul_lt_mul'' hx hy
  exact h _ _ (Nat.mod_add_div _ _) (Nat.mod_lt _ (by omega)) (Nat.div_lt_of_lt_mul hlt)

/-- How many bits a number takes. -/
def bl (x : Nat) : Nat := if x = 0 then 0 else x.log2 + 1
theorem bl_iff {x k : Nat} : bl x = k + 1 ↔ 2 ^ k ≤ x ∧ x < 2 ^ (k + 1) := by
  unfold bl
  by_cases h : x = 0
  · subst h
    have := Nat.two_pow_pos k
    simp
  · rw [if_neg h, Nat.add_right_cancel_iff, Nat.log2_eq_iff h]
theorem bl_zero {x : Nat} : bl x = 0 ↔ x = 0 := by
  unfold bl; split <;> simp_all
theorem bl_div {x : Nat} (s : Nat) (h : 2 ^ s ≤ x) : bl x = s + bl (x / 2 ^ s) := by
  have hp := Nat.two_pow_pos s
  cases e : bl (x / 2 ^ s) with
  | zero =>
    rw [bl_zero] at e
    have := Nat.div_pos h hp
    omega
  | succ k =>
    rw [bl_iff] at e
    rw [show s + (k + 1) = (s + k) + 1 by omega, bl_iff]
    have h1 := (Nat.le_div_iff_mul_le hp).1 e.1
    have h2 := (Nat.div_lt_iff_lt_mul hp).1 e.2
    rw [← Nat.pow_add] at h1 h2
    exact ⟨by rw [Nat.add_comm]; exact h1, by rw [show s + k + 1 = k + 1 + s by omega]; exact h2⟩
theorem bl32 (x : Nat) (h : 4294967296 ≤ x) : bl x = 32 + bl (x / 4294967296) := bl_div 32 h
theorem bl16 (x : Nat) (h : 65536 ≤ x) : bl x = 16 + bl (x / 65536) := bl_div 16 h
theorem bl8 (x : Nat) (h : 256 ≤ x) : bl x = 8 + bl (x / 256) := bl_div 8 h
theorem bl_lt {x : Nat} : x < 2 ^ bl x := by
  cases e : bl x with
  | zero => rw [bl_zero] at e; subst e; decide
  | succ k => exact (bl_iff.1 e).2
theorem bl_le {x k : Nat} (h : x < 2 ^ k) : bl x ≤ k := by
  cases e : bl x with
  | zero => omega
  | succ j =>
    have := (bl_iff.1 e).1
    have : 2 ^ j < 2 ^ k := Nat.lt_of_le_of_lt this h
    have := (Nat.pow_lt_pow_iff_right (by omega : 1 < 2)).1 this
    omega

theorem tab_done {L : List UInt8} {x y : Nat} {a : Int} (hl : L.length = 256) (ht : (List.range 256).all (fun i => (L.getD i 0).toNat == bl i) = true) (hx : x < 256) (h0 : 0 ≤ a) (ha : a ≤ 56) (hy : a + bl x = y) :
    0 ≤ (x : Int) ∧ (x : Int) < ((⟨L.toArray⟩ : ByteArray).size : Int) ∧ [RV.d (.int .i64) (.n (IntKind.i64.wrap (a + IntKind.i64.wrap ((L.getD x 0).toNat : Int))))] = [RV.d (.int .i64) (.n (y : Int))] := by
  have hs : (⟨L.toArray⟩ : ByteArray).size = 256 := by rw [← hl]; rfl
  have h1 := List.all_eq_true.1 ht x (List.mem_range.2 hx)
  rw [beq_iff_eq] at h1
  have h2 : bl x ≤ 8 := bl_le (by omega)
  rw [h1, hs, IntWalk.i64_in ((bl x : Nat) : Int) (by omega), IntWalk.i64_in _ (by omega), hy]
  exact ⟨by omega, by omega, rfl⟩

set_option maxHeartbeats 1000000 in
theorem len64 (x : Nat) (hx : x < 18446744073709551616) : SCall Tryd.prog 114 [(.int .u64, .n x)] (fun rs => rs = [.d (.int .i64) (.n (bl x))]) := by
  refine scall_intro (n := 25) (rl := [.tmp 2]) (us := [3]) Tryd.hT Tryd.func114 rfl rfl rfl rfl rfl (Nat.le_of_ble_eq_true rfl) ?_
  intro w0
  simp -dsimp -implicitDefEqProofs (disch := omega) only [↓gpre, ↓bldS, ↓bld, ↓reduceIte, ↓gmore, gpost, gall, keepT, den, del, upd, dels, refs, hasTy, sArgs, aRefs, rvs, nodupB, memB, app, pTm, Ty.bytes, kbytes, Ty.zeroD, Ty.size, Ty.cmp, Ty.depth, Go.SE.look, reduceCtorEq, Nat.reduceAdd, Nat.reduceSub, Nat.reduceMul, Nat.reduceEqDiff, Nat.reduceLT, Nat.reduceLeDiff, Nat.reduceMod, Nat.reduceDiv, Nat.reducePow, Nat.reduceBEq, Int.reduceToNat, Int.reduceLE, Int.reduceLT, Int.reduceEq, Int.reduceAdd, Int.reduceMul, Int.reduceSub, Int.reduceNeg, Int.reduceNe, Tryd.TS, Tryd.ev_g0, Tryd.ev1_g0, Tryd.ev_g1, Tryd.ev1_g1]
  refine HIf_dec (fun h1 => ?_) (fun h1 => ?_)
  · simp -dsimp -implicitDefEqProofs (disch := omega) only [↓gpre, ↓bldS, ↓bld, ↓reduceIte, ↓gmore, gpost, gall, keepT, den, del, upd, dels, refs, hasTy, sArgs, aRefs, rvs, nodupB, memB, app, pTm, Ty.bytes, kbytes, Ty.zeroD, Ty.size, Ty.cmp, Ty.depth, Go.SE.look, reduceCtorEq, Nat.reduceAdd, Nat.reduceSub, Nat.reduceMul, Nat.reduceEqDiff, Nat.reduceLT, Nat.reduceLeDiff, Nat.reduceMod, Nat.reduceDiv, Nat.reducePow, Nat.reduceBEq, Int.reduceToNat, Int.reduceLE, Int.reduceLT, Int.reduceEq, Int.reduceAdd, Int.reduceMul, Int.reduceSub, Int.reduceNeg, Int.reduceNe, Tryd.TS, Tryd.ev_g0, Tryd.ev1_g0, Tryd.ev_g1, Tryd.ev1_g1, shr32]
    refine HIf_dec (fun h2 => ?_) (fun h2 => ?_)
    · simp -dsimp -implicitDefEqProofs (disch := omega) only [↓gpre, ↓bldS, ↓bld, ↓reduceIte, ↓gmore, gpost, gall, keepT, den, del, upd, dels, refs, hasTy, sArgs, aRefs, rvs, nodupB, memB, app, pTm, Ty.bytes, kbytes, Ty.zeroD, Ty.size, Ty.cmp, Ty.depth, Go.SE.look, reduceCtorEq, Nat.reduceAdd, Nat.reduceSub, Nat.reduceMul, Nat.reduceEqDiff, Nat.reduceLT, Nat.reduceLeDiff, Nat.reduceMod, Nat.reduceDiv, Nat.reducePow, Nat.reduceBEq, Int.reduceToNat, Int.reduceLE, Int.reduceLT, Int.reduceEq, Int.reduceAdd, Int.reduceMul, Int.reduceSub, Int.reduceNeg, Int.reduceNe, Tryd.TS, Tryd.ev_g0, Tryd.ev1_g0, Tryd.ev_g1, Tryd.ev1_g1, shr16]
      refine HIf_dec (fun h3 => ?_) (fun h3 => ?_)
      · simp -dsimp -implicitDefEqProofs (disch := omega) only [↓gpre, ↓bldS, ↓bld, ↓reduceIte, ↓gmore, gpost, gall, keepT, den, del, upd, dels, refs, hasTy, sArgs, aRefs, rvs, nodupB, memB, app, pTm, Ty.bytes, kbytes, Ty.zeroD, Ty.size, Ty.cmp, Ty.depth, Go.SE.look, reduceCtorEq, Nat.reduceAdd, Nat.reduceSub, Nat.reduceMul, Nat.reduceEqDiff, Nat.reduceLT, Nat.reduceLeDiff, Nat.reduceMod, Nat.reduceDiv, Nat.reducePow, Nat.reduceBEq, Int.reduceToNat, Int.reduceLE, Int.reduceLT, Int.reduceEq, Int.reduceAdd, Int.reduceMul, Int.reduceSub, Int.reduceNeg, Int.reduceNe, Tryd.TS, Tryd.ev_g0, Tryd.ev1_g0, Tryd.ev_g1, Tryd.ev1_g1, shr8]
        refine tab_done (by decide +kernel) (by decide +kernel) (by omega) (by omega) (by omega) ?_
        rw [bl32 x (by omega), bl16 (x / 4294967296) (by omega), bl8 (x / 4294967296 / 65536) (by omega)]
        omega
      · simp -dsimp -implicitDefEqProofs (disch := omega) only [↓gpre, ↓bldS, ↓bld, ↓reduceIte, ↓gmore, gpost, gall, keepT, den, del, upd, dels, refs, hasTy, sArgs, aRefs, rvs, nodupB, memB, app, pTm, Ty.bytes, kbytes, Ty.zeroD, Ty.size, Ty.cmp, Ty.depth, Go.SE.look, reduceCtorEq, Nat.reduceAdd, Nat.reduceSub, Nat.reduceMul, Nat.reduceEqDiff, Nat.reduceLT, Nat.reduceLeDiff, Nat.reduceMod, Nat.reduceDiv, Nat.reducePow, Nat.reduceBEq, Int.reduceToNat, Int.reduceLE, Int.reduceLT, Int.reduceEq, Int.reduceAdd, Int.reduceMul, Int.reduceSub, Int.reduceNeg, Int.reduceNe, Tryd.TS, Tryd.ev_g0, Tryd.ev1_g0, Tryd.ev_g1, Tryd.ev1_g1]
        refine tab_done (by decide +kernel) (by decide +kernel) (by omega) (by omega) (by omega) ?_
        rw [bl32 x (by omega), bl16 (x / 4294967296) (by omega)]
        omega
    · simp -dsimp -implicitDefEqProofs (disch := omega) only [↓gpre, ↓bldS, ↓bld, ↓reduceIte, ↓gmore, gpost, gall, keepT, den, del, upd, dels, refs, hasTy, sArgs, aRefs, rvs, nodupB, memB, app, pTm, Ty.bytes, kbytes, Ty.zeroD, Ty.size, Ty.cmp, Ty.depth, Go.SE.look, reduceCtorEq, Nat.reduceAdd, Nat.reduceSub, Nat.reduceMul, Nat.reduceEqDiff, Nat.reduceLT, Nat.reduceLeDiff, Nat.reduceMod, Nat.reduceDiv, Nat.reducePow, Nat.reduceBEq, Int.reduceToNat, Int.reduceLE, Int.reduceLT, Int.reduceEq, Int.reduceAdd, Int.reduceMul, Int.reduceSub, Int.reduceNeg, Int.reduceNe, Tryd.TS, Tryd.ev_g0, Tryd.ev1_g0, Tryd.ev_g1, Tryd.ev1_g1]
      refine HIf_dec (fun h3 => ?_) (fun h3 => ?_)
      · simp -dsimp -implicitDefEqProofs (disch := omega) only [↓gpre, ↓bldS, ↓bld, ↓reduceIte, ↓gmore, gpost, gall, keepT, den, del, upd, dels, refs, hasTy, sArgs, aRefs, rvs, nodupB, memB, app, pTm, Ty.bytes, kbytes, Ty.zeroD, Ty.size, Ty.cmp, Ty.depth, Go.SE.look, reduceCtorEq, Nat.reduceAdd, Nat.reduceSub, Nat.reduceMul, Nat.reduceEqDiff, Nat.reduceLT, Nat.reduceLeDiff, Nat.reduceMod, Nat.reduceDiv, Nat.reducePow, Nat.reduceBEq, Int.reduceToNat, Int.reduceLE, Int.reduceLT, Int.reduceEq, Int.reduceAdd, Int.reduceMul, Int.reduceSub, Int.reduceNeg, Int.reduceNe, Tryd.TS, Tryd.ev_g0, Tryd.ev1_g0, Tryd.ev_g1, Tryd.ev1_g1, shr8]
        refine tab_done (by decide +kernel) (by decide +kernel) (by omega) (by omega) (by omega) ?_
        rw [bl32 x (by omega), bl8 (x / 4294967296) (by omega)]
        omega
      · simp -dsimp -implicitDefEqProofs (disch := omega) only [↓gpre, ↓bldS, ↓bld, ↓reduceIte, ↓gmore, gpost, gall, keepT, den, del, upd, dels, refs, hasTy, sArgs, aRefs, rvs, nodupB, memB, app, pTm, Ty.bytes, kbytes, Ty.zeroD, Ty.size, Ty.cmp, Ty.depth, Go.SE.look, reduceCtorEq, Nat.reduceAdd, Nat.reduceSub, Nat.reduceMul, Nat.reduceEqDiff, Nat.reduceLT, Nat.reduceLeDiff, Nat.reduceMod, Nat.reduceDiv, Nat.reducePow, Nat.reduceBEq, Int.reduceToNat, Int.reduceLE, Int.reduceLT, Int.reduceEq, Int.reduceAdd, Int.reduceMul, Int.reduceSub, Int.reduceNeg, Int.reduceNe, Tryd.TS, Tryd.ev_g0, Tryd.ev1_g0, Tryd.ev_g1, Tryd.ev1_g1]
        refine tab_done (by decide +kernel) (by decide +kernel) (by omega) (by omega) (by omega) ?_
        rw [bl32 x (by omega)]
        omega
  · simp -dsimp -implicitDefEqProofs (disch := omega) only [↓gpre, ↓bldS, ↓bld, ↓reduceIte, ↓gmore, gpost, gall, keepT, den, del, upd, dels, refs, hasTy, sArgs, aRefs, rvs, nodupB, memB, app, pTm, Ty.bytes, kbytes, Ty.zeroD, Ty.size, Ty.cmp, Ty.depth, Go.SE.look, reduceCtorEq, Nat.reduceAdd, Nat.reduceSub, Nat.reduceMul, Nat.reduceEqDiff, Nat.reduceLT, Nat.reduceLeDiff, Nat.reduceMod, Nat.reduceDiv, Nat.reducePow, Nat.reduceBEq, Int.reduceToNat, Int.reduceLE, Int.reduceLT, Int.reduceEq, Int.reduceAdd, Int.reduceMul, Int.reduceSub, Int.reduceNeg, Int.reduceNe, Tryd.TS, Tryd.ev_g0, Tryd.ev1_g0, Tryd.ev_g1, Tryd.ev1_g1]
    refine HIf_dec (fun h2 => ?_) (fun h2 => ?_)
    · simp -dsimp -implicitDefEqProofs (disch := omega) only [↓gpre, ↓bldS, ↓bld, ↓reduceIte, ↓gmore, gpost, gall, keepT, den, del, upd, dels, refs, hasTy, sArgs, aRefs, rvs, nodupB, memB, app, pTm, Ty.bytes, kbytes, Ty.zeroD, Ty.size, Ty.cmp, Ty.depth, Go.SE.look, reduceCtorEq, Nat.reduceAdd, Nat.reduceSub, Nat.reduceMul, Nat.reduceEqDiff, Nat.reduceLT, Nat.reduceLeDiff, Nat.reduceMod, Nat.reduceDiv, Nat.reducePow, Nat.reduceBEq, Int.reduceToNat, Int.reduceLE, Int.reduceLT, Int.reduceEq, Int.reduceAdd, Int.reduceMul, Int.reduceSub, Int.reduceNeg, Int.reduceNe, Tryd.TS, Tryd.ev_g0, Tryd.ev1_g0, Tryd.ev_g1, Tryd.ev1_g1, shr16]
      refine HIf_dec (fun h3 => ?_) (fun h3 => ?_)
      · simp -dsimp -implicitDefEqProofs (disch := omega) only [↓gpre, ↓bldS, ↓bld, ↓reduceIte, ↓gmore, gpost, gall, keepT, den, del, upd, dels, refs, hasTy, sArgs, aRefs, rvs, nodupB, memB, app, pTm, Ty.bytes, kbytes, Ty.zeroD, Ty.size, Ty.cmp, Ty.depth, Go.SE.look, reduceCtorEq, Nat.reduceAdd, Nat.reduceSub, Nat.reduceMul, Nat.reduceEqDiff, Nat.reduceLT, Nat.reduceLeDiff, Nat.reduceMod, Nat.reduceDiv, Nat.reducePow, Nat.reduceBEq, Int.reduceToNat, Int.reduceLE, Int.reduceLT, Int.reduceEq, Int.reduceAdd, Int.reduceMul, Int.reduceSub, Int.reduceNeg, Int.reduceNe, Tryd.TS, Tryd.ev_g0, Tryd.ev1_g0, Tryd.ev_g1, Tryd.ev1_g1, shr8]
        refine tab_done (by decide +kernel) (by decide +kernel) (by omega) (by omega) (by omega) ?_
        rw [bl16 x (by omega), bl8 (x / 65536) (by omega)]
        omega
      · simp -dsimp -implicitDefEqProofs (disch := omega) only [↓gpre, ↓bldS, ↓bld, ↓reduceIte, ↓gmore, gpost, gall, keepT, den, del, upd, dels, refs, hasTy, sArgs, aRefs, rvs, nodupB, memB, app, pTm, Ty.bytes, kbytes, Ty.zeroD, Ty.size, Ty.cmp, Ty.depth, Go.SE.look, reduceCtorEq, Nat.reduceAdd, Nat.reduceSub, Nat.reduceMul, Nat.reduceEqDiff, Nat.reduceLT, Nat.reduceLeDiff, Nat.reduceMod, Nat.reduceDiv, Nat.reducePow, Nat.reduceBEq, Int.reduceToNat, Int.reduceLE, Int.reduceLT, Int.reduceEq, Int.reduceAdd, Int.reduceMul, Int.reduceSub, Int.reduceNeg, Int.reduceNe, Tryd.TS, Tryd.ev_g0, Tryd.ev1_g0, Tryd.ev_g1, Tryd.ev1_g1]
        refine tab_done (by decide +kernel) (by decide +kernel) (by omega) (by omega) (by omega) ?_
        rw [bl16 x (by omega)]
        omega
    · simp -dsimp -implicitDefEqProofs (disch := omega) only [↓gpre, ↓bldS, ↓bld, ↓reduceIte, ↓gmore, gpost, gall, keepT, den, del, upd, dels, refs, hasTy, sArgs, aRefs, rvs, nodupB, memB, app, pTm, Ty.bytes, kbytes, Ty.zeroD, Ty.size, Ty.cmp, Ty.depth, Go.SE.look, reduceCtorEq, Nat.reduceAdd, Nat.reduceSub, Nat.reduceMul, Nat.reduceEqDiff, Nat.reduceLT, Nat.reduceLeDiff, Nat.reduceMod, Nat.reduceDiv, Nat.reducePow, Nat.reduceBEq, Int.reduceToNat, Int.reduceLE, Int.reduceLT, Int.reduceEq, Int.reduceAdd, Int.reduceMul, Int.reduceSub, Int.reduceNeg, Int.reduceNe, Tryd.TS, Tryd.ev_g0, Tryd.ev1_g0, Tryd.ev_g1, Tryd.ev1_g1]
      refine HIf_dec (fun h3 => ?_) (fun h3 => ?_)
      · simp -dsimp -implicitDefEqProofs (disch := omega) only [↓gpre, ↓bldS, ↓bld, ↓reduceIte, ↓gmore, gpost, gall, keepT, den, del, upd, dels, refs, hasTy, sArgs, aRefs, rvs, nodupB, memB, app, pTm, Ty.bytes, kbytes, Ty.zeroD, Ty.size, Ty.cmp, Ty.depth, Go.SE.look, reduceCtorEq, Nat.reduceAdd, Nat.reduceSub, Nat.reduceMul, Nat.reduceEqDiff, Nat.reduceLT, Nat.reduceLeDiff, Nat.reduceMod, Nat.reduceDiv, Nat.reducePow, Nat.reduceBEq, Int.reduceToNat, Int.reduceLE, Int.reduceLT, Int.reduceEq, Int.reduceAdd, Int.reduceMul, Int.reduceSub, Int.reduceNeg, Int.reduceNe, Tryd.TS, Tryd.ev_g0, Tryd.ev1_g0, Tryd.ev_g1, Tryd.ev1_g1, shr8]
        refine tab_done (by decide +kernel) (by decide +kernel) (by omega) (by omega) (by omega) ?_
        rw [bl8 x (by omega)]
        omega
      · simp -dsimp -implicitDefEqProofs (disch := omega) only [↓gpre, ↓bldS, ↓bld, ↓reduceIte, ↓gmore, gpost, gall, keepT, den, del, upd, dels, refs, hasTy, sArgs, aRefs, rvs, nodupB, memB, app, pTm, Ty.bytes, kbytes, Ty.zeroD, Ty.size, Ty.cmp, Ty.depth, Go.SE.look, reduceCtorEq, Nat.reduceAdd, Nat.reduceSub, Nat.reduceMul, Nat.reduceEqDiff, Nat.reduceLT, Nat.reduceLeDiff, Nat.reduceMod, Nat.reduceDiv, Nat.reducePow, Nat.reduceBEq, Int.reduceToNat, Int.reduceLE, Int.reduceLT, Int.reduceEq, Int.reduceAdd, Int.reduceMul, Int.reduceSub, Int.reduceNeg, Int.reduceNe, Tryd.TS, Tryd.ev_g0, Tryd.ev1_g0, Tryd.ev_g1, Tryd.ev1_g1]
        exact tab_done (by decide +kernel) (by decide +kernel) (by omega) (by omega) (by omega) (by omega)
end Go.Proofs
/- Numbers of 256 bits: bits, lengths, shifts. -/
namespace Go.Proofs
open Go.SE

theorem td64 {a : Nat} : (a : Int).tdiv 64 = ((a / 64 : Nat) : Int) := rfl
theorem tm64 {a : Nat} : (a : Int).tmod 64 = ((a % 64 : Nat) : Int) := rfl
theorem tdN {a b : Nat} : (a : Int).tdiv (b : Int) = ((a / b : Nat) : Int) := rfl
theorem tmN {a b : Nat} : (a : Int).tmod (b : Int) = ((a % b : Nat) : Int) := rfl

theorem u256_at (n : Nat) {j : Nat} (hj : j < 4) : D.at (u256 n) j = .n ((n / 2 ^ (64 * j) % 18446744073709551616 : Nat) : Int) := by
  match j, hj with
  | 0, _ => simp [u256, D.at, D.list]
  | 1, _ => rfl
  | 2, _ => rfl
  | 3, _ => rfl
theorem u256_list (n : Nat) : (u256 n).list.length = 4 := rfl

theorem and_one {a : Nat} (h : a < 18446744073709551616) : bits .and .u64 (a : Int) 1 = ((a % 2 : Nat) : Int) := by
  have := bits_and_u64_nat a 1 h (by omega)
  rw [Nat.and_one_is_mod] at this
  exact this

theorem limb_bit (n i : Nat) : n / 2 ^ (64 * (i / 64)) % 18446744073709551616 / 2 ^ (i % 64) % 2 = n / 2 ^ i % 2 := by
  have h1 : (18446744073709551616 : Nat) = 2 ^ (i % 64) * 2 ^ (64 - i % 64) := by rw [← Nat.pow_add, show i % 64 + (64 - i % 64) = 64 by omega]
  rw [h1, Nat.mod_mul_right_div_self, Nat.div_div_eq_div_mul, ← Nat.pow_add, show 64 * (i / 64) + i % 64 = i by omega]
  exact Nat.mod_mod_of_dvd _ (Nat.pow_dvd_pow 2 (show 1 ≤ 64 - i % 64 by omega))

theorem limb_lt (n k : Nat) (m : Nat) : n / 2 ^ k % 18446744073709551616 / 2 ^ m < 18446744073709551616 := Nat.lt_of_le_of_lt (Nat.div_le_self _ _) (Nat.mod_lt _ (by omega))

set_option maxHeartbeats 1000000 in
theorem wbitRef (n i : Nat) (hi : i < 256) : SCall Tryd.prog 111 [(.arr 4 (.int .u64), u256 n), (.int .i64, .n i)] (fun rs => rs = [.d .bool (.b (decide (n / 2 ^ i % 2 = 1)))]) := by
  refine scall_intro (n := 14) (rl := [.tmp 4]) (us := [4]) Tryd.hT Tryd.func111 rfl rfl rfl rfl rfl (Nat.le_of_ble_eq_true rfl) ?_
  intro w0
  have h4 : i / 64 < 4 := by omega
  simp -dsimp -implicitDefEqProofs (disch := omega) only [↓gpre, ↓bldS, ↓bld, ↓reduceIte, ↓gmore, gpost, gall, keepT, den, del, upd, dels, refs, hasTy, sArgs, aRefs, rvs, nodupB, memB, app, pTm, Ty.bytes, kbytes, Ty.zeroD, Ty.size, Ty.cmp, Ty.depth, Go.SE.look, reduceCtorEq, Nat.reduceAdd, Nat.reduceSub, Nat.reduceMul, Nat.reduceEqDiff, Nat.reduceLT, Nat.reduceLeDiff, Nat.reduceMod, Nat.reduceDiv, Nat.reducePow, Nat.reduceBEq, Int.reduceToNat, Int.reduceLE, Int.reduceLT, Int.reduceEq, Int.reduceAdd, Int.reduceMul, Int.reduceSub, Int.reduceNeg, Int.reduceNe, Tryd.TS, Tryd.ev_g0, Tryd.ev1_g0, Tryd.ev_g1, Tryd.ev1_g1, td64, tm64, u256_at _ h4, u256_list, shrN (show i % 64 ≤ 64 by omega), and_one (limb_lt _ _ _), limb_bit]
  refine ⟨by omega, by omega, by omega, ?_⟩
  rw [show decide (((n / 2 ^ i % 2 : Nat) : Int) = 1) = decide (n / 2 ^ i % 2 = 1) from decide_eq_decide.2 (by generalize n / 2 ^ i = q; omega)]

theorem bl_u256 {n i : Nat} (h : n < 2 ^ (i + 1)) (hb : n / 2 ^ i % 2 = 1) : bl n = i + 1 := by
  refine bl_iff.2 ⟨?_, h⟩
  rcases Nat.lt_or_ge n (2 ^ i) with k | k
  · rw [Nat.div_eq_of_lt k] at hb; omega
  · exact k
theorem lt_of_bit {n i : Nat} (h : n < 2 ^ (i + 1)) (hb : ¬ n / 2 ^ i % 2 = 1) : n < 2 ^ i := by
  have hp := Nat.two_pow_pos i
  rw [Nat.pow_succ] at h
  have : n / 2 ^ i < 2 := Nat.div_lt_of_lt_mul h
  have : n / 2 ^ i = 0 := by generalize n / 2 ^ i = q at *; omega
  rcases (Nat.div_eq_zero_iff).1 this with k | k
  · omega
  · exact k

set_option maxHeartbeats 1000000 in
theorem wlenRef (n : Nat) (hn : n < 115792089237316195423570985008687907853269984665640564039457584007913129639936) : SCall Tryd.prog 116 [(.arr 4 (.int .u64), u256 n)] (fun rs => rs = [.d (.int .i64) (.n (bl n))]) := by
  refine scall_intro (n := 13) (rl := [.tmp 2]) (us := [3]) Tryd.hT Tryd.func116 rfl rfl rfl rfl rfl (Nat.le_of_ble_eq_true rfl) ?_
  intro w0
  simp -dsimp -implicitDefEqProofs (disch := omega) only [↓gpre, ↓bldS, ↓bld, ↓reduceIte, ↓gmore, gpost, gall, keepT, den, del, upd, dels, refs, hasTy, sArgs, aRefs, rvs, nodupB, memB, app, pTm, Ty.bytes, kbytes, Ty.zeroD, Ty.size, Ty.cmp, Ty.depth, Go.SE.look, reduceCtorEq, Nat.reduceAdd, Nat.reduceSub, Nat.reduceMul, Nat.reduceEqDiff, Nat.reduceLT, Nat.reduceLeDiff, Nat.reduceMod, Nat.reduceDiv, Nat.reducePow, Nat.reduceBEq, Int.reduceToNat, Int.reduceLE, Int.reduceLT, Int.reduceEq, Int.reduceAdd, Int.reduceMul, Int.reduceSub, Int.reduceNeg, Int.reduceNe, Tryd.TS, Tryd.ev_g0, Tryd.ev1_g0, Tryd.ev_g1, Tryd.ev1_g1]
  refine sloop Tryd.hT (α := Nat) (fun k => ⟨13, [(3, .v (.d (.int .i64) (.n ((k : Int) - 1)))), (1, .v (.ptr 0 []))], [(0, ⟨.arr 4 (.int .u64), .d (.arr 4 (.int .u64)) (u256 n)⟩)], 1⟩) (fun k => k ≤ 256 ∧ n < 2 ^ k) (fun k => k) 256 ?_ ⟨Nat.le_refl _, hn⟩ ?_
  · refine sub_ren w0 [(0, 0)] rfl (by simp [keysLt]) rfl ?_ ?_
    · simp [renTm, Go.SE.look, renTV, renSV]
    · simp [renOb, Go.SE.look, renSV]
  rintro k ⟨hk, hlt⟩
  simp -dsimp -implicitDefEqProofs (disch := omega) only [↓gpre, ↓bldS, ↓bld, ↓reduceIte, ↓gmore, gpost, gall, keepT, den, del, upd, dels, refs, hasTy, sArgs, aRefs, rvs, nodupB, memB, app, pTm, Ty.bytes, kbytes, Ty.zeroD, Ty.size, Ty.cmp, Ty.depth, Go.SE.look, reduceCtorEq, Nat.reduceAdd, Nat.reduceSub, Nat.reduceMul, Nat.reduceEqDiff, Nat.reduceLT, Nat.reduceLeDiff, Nat.reduceMod, Nat.reduceDiv, Nat.reducePow, Nat.reduceBEq, Int.reduceToNat, Int.reduceLE, Int.reduceLT, Int.reduceEq, Int.reduceAdd, Int.reduceMul, Int.reduceSub, Int.reduceNeg, Int.reduceNe, Tryd.TS, Tryd.ev_g0, Tryd.ev1_g0, Tryd.ev_g1, Tryd.ev1_g1]
  refine HIf_dec (fun h => ?_) (fun h => ?_)
  · obtain ⟨i, rfl⟩ : ∃ i, k = i + 1 := ⟨k - 1, by omega⟩
    simp -dsimp -implicitDefEqProofs (disch := omega) only [↓gpre, ↓bldS, ↓bld, ↓reduceIte, ↓gmore, gpost, gall, keepT, den, del, upd, dels, refs, hasTy, sArgs, aRefs, rvs, nodupB, memB, app, pTm, Ty.bytes, kbytes, Ty.zeroD, Ty.size, Ty.cmp, Ty.depth, Go.SE.look, reduceCtorEq, Nat.reduceAdd, Nat.reduceSub, Nat.reduceMul, Nat.reduceEqDiff, Nat.reduceLT, Nat.reduceLeDiff, Nat.reduceMod, Nat.reduceDiv, Nat.reducePow, Nat.reduceBEq, Int.reduceToNat, Int.reduceLE, Int.reduceLT, Int.reduceEq, Int.reduceAdd, Int.reduceMul, Int.reduceSub, Int.reduceNeg, Int.reduceNe, Tryd.TS, Tryd.ev_g0, Tryd.ev1_g0, Tryd.ev_g1, Tryd.ev1_g1, show (((i + 1 : Nat) : Int) - 1) = (i : Int) by omega]
    refine SCall.mono (wbitRef n i (by omega)) ?_; rintro rs rfl
    simp -dsimp -implicitDefEqProofs (disch := omega) only [↓gpre, ↓bldS, ↓bld, ↓reduceIte, ↓gmore, gpost, gall, keepT, den, del, upd, dels, refs, hasTy, sArgs, aRefs, rvs, nodupB, memB, app, pTm, Ty.bytes, kbytes, Ty.zeroD, Ty.size, Ty.cmp, Ty.depth, Go.SE.look, reduceCtorEq, Nat.reduceAdd, Nat.reduceSub, Nat.reduceMul, Nat.reduceEqDiff, Nat.reduceLT, Nat.reduceLeDiff, Nat.reduceMod, Nat.reduceDiv, Nat.reducePow, Nat.reduceBEq, Int.reduceToNat, Int.reduceLE, Int.reduceLT, Int.reduceEq, Int.reduceAdd, Int.reduceMul, Int.reduceSub, Int.reduceNeg, Int.reduceNe, Tryd.TS, Tryd.ev_g0, Tryd.ev1_g0, Tryd.ev_g1, Tryd.ev1_g1]
    refine HIf_dec (fun hb => ?_) (fun hb => ?_)
    · simp -dsimp -implicitDefEqProofs (disch := omega) only [↓gpre, ↓bldS, ↓bld, ↓reduceIte, ↓gmore, gpost, gall, keepT, den, del, upd, dels, refs, hasTy, sArgs, aRefs, rvs, nodupB, memB, app, pTm, Ty.bytes, kbytes, Ty.zeroD, Ty.size, Ty.cmp, Ty.depth, Go.SE.look, reduceCtorEq, Nat.reduceAdd, Nat.reduceSub, Nat.reduceMul, Nat.reduceEqDiff, Nat.reduceLT, Nat.reduceLeDiff, Nat.reduceMod, Nat.reduceDiv, Nat.reducePow, Nat.reduceBEq, Int.reduceToNat, Int.reduceLE, Int.reduceLT, Int.reduceEq, Int.reduceAdd, Int.reduceMul, Int.reduceSub, Int.reduceNeg, Int.reduceNe, Tryd.TS, Tryd.ev_g0, Tryd.ev1_g0, Tryd.ev_g1, Tryd.ev1_g1]
      rw [bl_u256 hlt hb, show (((i + 1 : Nat) : Int) - 1 + 1) = ((i + 1 : Nat) : Int) by omega]
    · simp -dsimp -implicitDefEqProofs (disch := omega) only [↓gpre, ↓bldS, ↓bld, ↓reduceIte, ↓gmore, gpost, gall, keepT, den, del, upd, dels, refs, hasTy, sArgs, aRefs, rvs, nodupB, memB, app, pTm, Ty.bytes, kbytes, Ty.zeroD, Ty.size, Ty.cmp, Ty.depth, Go.SE.look, reduceCtorEq, Nat.reduceAdd, Nat.reduceSub, Nat.reduceMul, Nat.reduceEqDiff, Nat.reduceLT, Nat.reduceLeDiff, Nat.reduceMod, Nat.reduceDiv, Nat.reducePow, Nat.reduceBEq, Int.reduceToNat, Int.reduceLE, Int.reduceLT, Int.reduceEq, Int.reduceAdd, Int.reduceMul, Int.reduceSub, Int.reduceNeg, Int.reduceNe, Tryd.TS, Tryd.ev_g0, Tryd.ev1_g0, Tryd.ev_g1, Tryd.ev1_g1]
      refine ⟨i, ⟨by omega, lt_of_bit hlt hb⟩, by omega, ?_⟩
      refine sub_ren w0 [(0, 0)] rfl (by simp [keysLt]) rfl ?_ ?_
      · simp [renTm, Go.SE.look, renTV, renSV]
      · simp [renOb, Go.SE.look, renSV]
  · simp -dsimp -implicitDefEqProofs (disch := omega) only [↓gpre, ↓bldS, ↓bld, ↓reduceIte, ↓gmore, gpost, gall, keepT, den, del, upd, dels, refs, hasTy, sArgs, aRefs, rvs, nodupB, memB, app, pTm, Ty.bytes, kbytes, Ty.zeroD, Ty.size, Ty.cmp, Ty.depth, Go.SE.look, reduceCtorEq, Nat.reduceAdd, Nat.reduceSub, Nat.reduceMul, Nat.reduceEqDiff, Nat.reduceLT, Nat.reduceLeDiff, Nat.reduceMod, Nat.reduceDiv, Nat.reducePow, Nat.reduceBEq, Int.reduceToNat, Int.reduceLE, Int.reduceLT, Int.reduceEq, Int.reduceAdd, Int.reduceMul, Int.reduceSub, Int.reduceNeg, Int.reduceNe, Tryd.TS, Tryd.ev_g0, Tryd.ev1_g0, Tryd.ev_g1, Tryd.ev1_g1]
    have : k = 0 := by omega
    subst this
    have : n = 0 := by omega
    subst this
    rfl

theorem or_pow {a r : Nat} (h : a / 2 ^ r % 2 = 0) : a ||| 2 ^ r = a + 2 ^ r := by
  have hp := Nat.two_pow_pos r
  have hs : a % 2 ^ r < 2 ^ r := Nat.mod_lt _ hp
  have e : 2 ^ r * (2 * (a / 2 ^ r / 2)) + a % 2 ^ r = a := by
    rw [show 2 * (a / 2 ^ r / 2) = a / 2 ^ r by omega, Nat.div_add_mod]
  have e1 : 2 ^ r * (2 * (a / 2 ^ r / 2) + 1) = 2 ^ r * (2 * (a / 2 ^ r / 2)) ||| 2 ^ r := by
    have : 2 * (a / 2 ^ r / 2) + 1 = 2 * (a / 2 ^ r / 2) ||| 1 := Nat.two_pow_add_eq_or_of_lt (i := 1) (by omega) _
    rw [this, Nat.mul_comm, ← Nat.shiftLeft_eq, Nat.shiftLeft_or_distrib, Nat.shiftLeft_eq, Nat.shiftLeft_eq, Nat.one_mul, Nat.mul_comm]
  have e2 : a + 2 ^ r = 2 ^ r * (2 * (a / 2 ^ r / 2) + 1) + a % 2 ^ r := by rw [Nat.mul_add, Nat.mul_one]; omega
  rw [e2, Nat.two_pow_add_eq_or_of_lt hs, e1]
  rw [Nat.or_assoc, Nat.or_comm (2 ^ r), ← Nat.or_assoc, ← Nat.two_pow_add_eq_or_of_lt hs, e]

theorem add_pow_lt {a r k : Nat} (hr : r < k) (ha : a < 2 ^ k) (h : a / 2 ^ r % 2 = 0) : a + 2 ^ r < 2 ^ k := by
  rw [← or_pow h]
  exact Nat.or_lt_two_pow ha (Nat.pow_lt_pow_right (by omega) hr)

theorem shl_one {r : Nat} (hr : r < 64) : IntKind.u64.wrap (1 * 2 ^ min r IntKind.u64.bits) = ((2 ^ r : Nat) : Int) := by
  rw [show min r IntKind.u64.bits = r from Nat.min_eq_left (by show r ≤ 64; omega), Int.one_mul]
  have : 2 ^ r < 2 ^ 64 := Nat.pow_lt_pow_right (by omega) hr
  rw [show ((2 : Int) ^ r) = ((2 ^ r : Nat) : Int) by norm_cast]
  generalize 2 ^ r = q at *
  exact IntWalk.u64_in _ (by omega)

theorem u256_set {N i : Nat} (hN : N < 115792089237316195423570985008687907853269984665640564039457584007913129639936) (hi : i < 256) (hb : N / 2 ^ i % 2 = 0) :
    D.l ((u256 N).list.set (i / 64) (.n (bits .or .u64 ((N / 2 ^ (64 * (i / 64)) % 18446744073709551616 : Nat) : Int) (IntKind.u64.wrap (1 * 2 ^ min (i % 64) IntKind.u64.bits))))) = u256 (N + 2 ^ i) := by
  have hlb := limb_bit N i
  rw [hb] at hlb
  have hL : N / 2 ^ (64 * (i / 64)) % 18446744073709551616 < 18446744073709551616 := Nat.mod_lt _ (by omega)
  have hlt := add_pow_lt (k := 64) (show i % 64 < 64 by omega) hL hlb
  have h2 : 2 ^ (i % 64) < 18446744073709551616 := Nat.pow_lt_pow_right (n := 64) (by omega) (by omega)
  rw [shl_one (by omega), u64_or_nat _ _ hL h2, or_pow hlb]
  have hpow : 2 ^ i = 2 ^ (64 * (i / 64)) * 2 ^ (i % 64) := by rw [← Nat.pow_add, Nat.div_add_mod]
  rw [hpow]
  generalize 2 ^ (i % 64) = r at *
  obtain ⟨a, b, c, d, ha, hb', hc, hd, en, eu⟩ := u256_open N hN
  rw [eu]
  obtain h | h | h | h : i / 64 = 0 ∨ i / 64 = 1 ∨ i / 64 = 2 ∨ i / 64 = 3 := by omega
  all_goals rw [h] at hlt hL ⊢
  all_goals simp only [D.list, List.set_cons_zero, List.set_cons_succ]
  · exact u256_mk (by simpa using hlt) hb' hc hd (by omega)
  · exact u256_mk ha hlt hc hd (by omega)
  · exact u256_mk ha hb' hlt hd (by omega)
  · exact u256_mk ha hb' hc hlt (by omega)
end Go.Proofs
/- Numbers of 256 bits: shifts by one. -/
namespace Go.Proofs
open Go.SE

theorem sr1 {a : Nat} : (a : Int).fdiv (2 ^ min 1 IntKind.u64.bits) = ((a / 2 : Nat) : Int) := shrN (by omega)
theorem sr63 {a : Nat} : (a : Int).fdiv (2 ^ min 63 IntKind.u64.bits) = ((a / 9223372036854775808 : Nat) : Int) := shrN (by omega)
theorem sl1 {a : Nat} : IntKind.u64.wrap ((a : Int) * 2 ^ min 1 IntKind.u64.bits) = ((a * 2 % 18446744073709551616 : Nat) : Int) := by
  rw [show (2 : Int) ^ min 1 IntKind.u64.bits = ((2 : Nat) : Int) from rfl, mulN, wrapM]
theorem sl63 {a : Nat} : IntKind.u64.wrap ((a : Int) * 2 ^ min 63 IntKind.u64.bits) = ((a % 2 * 9223372036854775808 : Nat) : Int) := by
  rw [show (2 : Int) ^ min 63 IntKind.u64.bits = ((9223372036854775808 : Nat) : Int) from rfl, mulN, wrapM]
  congr 1; omega
theorem or1 {a b : Nat} (ha : a < 18446744073709551616) : bits .or .u64 ((a / 2 : Nat) : Int) ((b % 2 * 9223372036854775808 : Nat) : Int) = ((a / 2 + b % 2 * 9223372036854775808 : Nat) : Int) := by
  rw [u64_or_nat _ _ (by omega) (by omega), Nat.or_comm]
  have := Nat.two_pow_add_eq_or_of_lt (i := 63) (b := a / 2) (by omega) (b % 2)
  rw [Nat.mul_comm (b % 2), show (9223372036854775808 : Nat) = 2 ^ 63 from rfl, ← this, Nat.add_comm]
theorem or2 {a b : Nat} (ha : a < 18446744073709551616) : bits .or .u64 ((b * 2 % 18446744073709551616 : Nat) : Int) ((a / 9223372036854775808 : Nat) : Int) = ((b * 2 % 18446744073709551616 + a / 9223372036854775808 : Nat) : Int) := by
  rw [u64_or_nat _ _ (by omega) (by omega)]
  have := Nat.two_pow_add_eq_or_of_lt (i := 1) (b := a / 9223372036854775808) (by omega) (b % 9223372036854775808)
  rw [show b * 2 % 18446744073709551616 = 2 ^ 1 * (b % 9223372036854775808) by omega, ← this]

theorem tdl : (1 : Int).tdiv 64 = 0 := by decide
theorem tml : (1 : Int).tmod 64 = 1 := by decide
theorem td0 : (0 : Int).tdiv 64 = 0 := by decide

set_option maxHeartbeats 1000000 in
theorem wshr1 (n : Nat) (hn : n < 115792089237316195423570985008687907853269984665640564039457584007913129639936) : SCall Tryd.prog 103 [(.arr 4 (.int .u64), u256 n), (.int .i64, .n 1)] (fun rs => rs = [.d (.arr 4 (.int .u64)) (u256 (n / 2))]) := by
  obtain ⟨a, b, c, d, ha, hb, hc, hd, en, eu⟩ := u256_open n hn
  rw [eu]
  refine scall_intro (n := 58) (rl := [.cell 4 45]) (us := [45]) Tryd.hT Tryd.func103 rfl rfl rfl rfl rfl (Nat.le_of_ble_eq_true rfl) ?_
  intro w0
  simp -dsimp -implicitDefEqProofs (disch := omega) only [↓gpre, ↓bldS, ↓bld, ↓reduceIte, ↓gmore, gpost, gall, keepT, den, del, upd, dels, refs, hasTy, sArgs, aRefs, rvs, nodupB, memB, app, pTm, Ty.bytes, kbytes, Ty.zeroD, Ty.size, Ty.cmp, Ty.depth, Go.SE.look, reduceCtorEq, Nat.reduceAdd, Nat.reduceSub, Nat.reduceMul, Nat.reduceEqDiff, Nat.reduceLT, Nat.reduceLeDiff, Nat.reduceMod, Nat.reduceDiv, Nat.reducePow, Nat.reduceBEq, Int.reduceToNat, Int.reduceLE, Int.reduceLT, Int.reduceEq, Int.reduceAdd, Int.reduceMul, Int.reduceSub, Int.reduceNeg, Int.reduceNe, Tryd.TS, Tryd.ev_g0, Tryd.ev1_g0, Tryd.ev_g1, Tryd.ev1_g1, rep4]
  refine sunrollK [1, 2, 4, 5, 6] Tryd.hT ?_; simp -dsimp -implicitDefEqProofs (disch := omega) only [↓gpre, ↓bldS, ↓bld, ↓reduceIte, ↓gmore, gpost, gall, keepT, den, del, upd, dels, refs, hasTy, sArgs, aRefs, rvs, nodupB, memB, app, pTm, Ty.bytes, kbytes, Ty.zeroD, Ty.size, Ty.cmp, Ty.depth, Go.SE.look, reduceCtorEq, Nat.reduceAdd, Nat.reduceSub, Nat.reduceMul, Nat.reduceEqDiff, Nat.reduceLT, Nat.reduceLeDiff, Nat.reduceMod, Nat.reduceDiv, Nat.reducePow, Nat.reduceBEq, Int.reduceToNat, Int.reduceLE, Int.reduceLT, Int.reduceEq, Int.reduceAdd, Int.reduceMul, Int.reduceSub, Int.reduceNeg, Int.reduceNe, Tryd.TS, Tryd.ev_g0, Tryd.ev1_g0, Tryd.ev_g1, Tryd.ev1_g1, rep4, tdl, tml]
  refine sdraw Tryd.hT (by kernel_rfl) [12] [0, 1, 2, 3, 4, 5, 6, 7, 8, 9, 10, 11, 12] (by kernel_rfl) (by kernel_rfl) (by kernel_rfl) ?_; simp only [pickO, List.getElem?_toArray, List.getElem?_cons_zero, List.getElem?_cons_succ]
  simp -dsimp -implicitDefEqProofs (disch := omega) only [↓gpre, ↓bldS, ↓bld, ↓reduceIte, ↓gmore, gpost, gall, keepT, den, del, upd, dels, refs, hasTy, sArgs, aRefs, rvs, nodupB, memB, app, pTm, Ty.bytes, kbytes, Ty.zeroD, Ty.size, Ty.cmp, Ty.depth, Go.SE.look, reduceCtorEq, Nat.reduceAdd, Nat.reduceSub, Nat.reduceMul, Nat.reduceEqDiff, Nat.reduceLT, Nat.reduceLeDiff, Nat.reduceMod, Nat.reduceDiv, Nat.reducePow, Nat.reduceBEq, Int.reduceToNat, Int.reduceLE, Int.reduceLT, Int.reduceEq, Int.reduceAdd, Int.reduceMul, Int.reduceSub, Int.reduceNeg, Int.reduceNe, Tryd.TS, Tryd.ev_g0, Tryd.ev1_g0, Tryd.ev_g1, Tryd.ev1_g1, rep4, tdl, tml]
  refine sunrollK [1, 2, 4, 5, 6] Tryd.hT ?_; simp -dsimp -implicitDefEqProofs (disch := omega) only [↓gpre, ↓bldS, ↓bld, ↓reduceIte, ↓gmore, gpost, gall, keepT, den, del, upd, dels, refs, hasTy, sArgs, aRefs, rvs, nodupB, memB, app, pTm, Ty.bytes, kbytes, Ty.zeroD, Ty.size, Ty.cmp, Ty.depth, Go.SE.look, reduceCtorEq, Nat.reduceAdd, Nat.reduceSub, Nat.reduceMul, Nat.reduceEqDiff, Nat.reduceLT, Nat.reduceLeDiff, Nat.reduceMod, Nat.reduceDiv, Nat.reducePow, Nat.reduceBEq, Int.reduceToNat, Int.reduceLE, Int.reduceLT, Int.reduceEq, Int.reduceAdd, Int.reduceMul, Int.reduceSub, Int.reduceNeg, Int.reduceNe, Tryd.TS, Tryd.ev_g0, Tryd.ev1_g0, Tryd.ev_g1, Tryd.ev1_g1, rep4, tdl, tml]
  refine sdraw Tryd.hT (by kernel_rfl) [12] [0, 1, 2, 3, 4, 5, 6, 7, 8, 9, 10, 11, 12] (by kernel_rfl) (by kernel_rfl) (by kernel_rfl) ?_; simp only [pickO, List.getElem?_toArray, List.getElem?_cons_zero, List.getElem?_cons_succ]
  simp -dsimp -implicitDefEqProofs (disch := omega) only [↓gpre, ↓bldS, ↓bld, ↓reduceIte, ↓gmore, gpost, gall, keepT, den, del, upd, dels, refs, hasTy, sArgs, aRefs, rvs, nodupB, memB, app, pTm, Ty.bytes, kbytes, Ty.zeroD, Ty.size, Ty.cmp, Ty.depth, Go.SE.look, reduceCtorEq, Nat.reduceAdd, Nat.reduceSub, Nat.reduceMul, Nat.reduceEqDiff, Nat.reduceLT, Nat.reduceLeDiff, Nat.reduceMod, Nat.reduceDiv, Nat.reducePow, Nat.reduceBEq, Int.reduceToNat, Int.reduceLE, Int.reduceLT, Int.reduceEq, Int.reduceAdd, Int.reduceMul, Int.reduceSub, Int.reduceNeg, Int.reduceNe, Tryd.TS, Tryd.ev_g0, Tryd.ev1_g0, Tryd.ev_g1, Tryd.ev1_g1, rep4, tdl, tml]
  refine sunrollK [1, 2, 4, 5, 6] Tryd.hT ?_; simp -dsimp -implicitDefEqProofs (disch := omega) only [↓gpre, ↓bldS, ↓bld, ↓reduceIte, ↓gmore, gpost, gall, keepT, den, del, upd, dels, refs, hasTy, sArgs, aRefs, rvs, nodupB, memB, app, pTm, Ty.bytes, kbytes, Ty.zeroD, Ty.size, Ty.cmp, Ty.depth, Go.SE.look, reduceCtorEq, Nat.reduceAdd, Nat.reduceSub, Nat.reduceMul, Nat.reduceEqDiff, Nat.reduceLT, Nat.reduceLeDiff, Nat.reduceMod, Nat.reduceDiv, Nat.reducePow, Nat.reduceBEq, Int.reduceToNat, Int.reduceLE, Int.reduceLT, Int.reduceEq, Int.reduceAdd, Int.reduceMul, Int.reduceSub, Int.reduceNeg, Int.reduceNe, Tryd.TS, Tryd.ev_g0, Tryd.ev1_g0, Tryd.ev_g1, Tryd.ev1_g1, rep4, tdl, tml]
  refine sdraw Tryd.hT (by kernel_rfl) [12] [0, 1, 2, 3, 4, 5, 6, 7, 8, 9, 10, 11, 12] (by kernel_rfl) (by kernel_rfl) (by kernel_rfl) ?_; simp only [pickO, List.getElem?_toArray, List.getElem?_cons_zero, List.getElem?_cons_succ]
  simp -dsimp -implicitDefEqProofs (disch := omega) only [↓gpre, ↓bldS, ↓bld, ↓reduceIte, ↓gmore, gpost, gall, keepT, den, del, upd, dels, refs, hasTy, sArgs, aRefs, rvs, nodupB, memB, app, pTm, Ty.bytes, kbytes, Ty.zeroD, Ty.size, Ty.cmp, Ty.depth, Go.SE.look, reduceCtorEq, Nat.reduceAdd, Nat.reduceSub, Nat.reduceMul, Nat.reduceEqDiff, Nat.reduceLT, Nat.reduceLeDiff, Nat.reduceMod, Nat.reduceDiv, Nat.reducePow, Nat.reduceBEq, Int.reduceToNat, Int.reduceLE, Int.reduceLT, Int.reduceEq, Int.reduceAdd, Int.reduceMul, Int.reduceSub, Int.reduceNeg, Int.reduceNe, Tryd.TS, Tryd.ev_g0, Tryd.ev1_g0, Tryd.ev_g1, Tryd.ev1_g1, rep4, tdl, tml]
  refine sunrollK [1, 2, 4, 5, 6] Tryd.hT ?_; simp -dsimp -implicitDefEqProofs (disch := omega) only [↓gpre, ↓bldS, ↓bld, ↓reduceIte, ↓gmore, gpost, gall, keepT, den, del, upd, dels, refs, hasTy, sArgs, aRefs, rvs, nodupB, memB, app, pTm, Ty.bytes, kbytes, Ty.zeroD, Ty.size, Ty.cmp, Ty.depth, Go.SE.look, reduceCtorEq, Nat.reduceAdd, Nat.reduceSub, Nat.reduceMul, Nat.reduceEqDiff, Nat.reduceLT, Nat.reduceLeDiff, Nat.reduceMod, Nat.reduceDiv, Nat.reducePow, Nat.reduceBEq, Int.reduceToNat, Int.reduceLE, Int.reduceLT, Int.reduceEq, Int.reduceAdd, Int.reduceMul, Int.reduceSub, Int.reduceNeg, Int.reduceNe, Tryd.TS, Tryd.ev_g0, Tryd.ev1_g0, Tryd.ev_g1, Tryd.ev1_g1, rep4, tdl, tml]
  refine sunrollK [1, 2, 4, 5, 6] Tryd.hT ?_; simp -dsimp -implicitDefEqProofs (disch := omega) only [↓gpre, ↓bldS, ↓bld, ↓reduceIte, ↓gmore, gpost, gall, keepT, den, del, upd, dels, refs, hasTy, sArgs, aRefs, rvs, nodupB, memB, app, pTm, Ty.bytes, kbytes, Ty.zeroD, Ty.size, Ty.cmp, Ty.depth, Go.SE.look, reduceCtorEq, Nat.reduceAdd, Nat.reduceSub, Nat.reduceMul, Nat.reduceEqDiff, Nat.reduceLT, Nat.reduceLeDiff, Nat.reduceMod, Nat.reduceDiv, Nat.reducePow, Nat.reduceBEq, Int.reduceToNat, Int.reduceLE, Int.reduceLT, Int.reduceEq, Int.reduceAdd, Int.reduceMul, Int.reduceSub, Int.reduceNeg, Int.reduceNe, Tryd.TS, Tryd.ev_g0, Tryd.ev1_g0, Tryd.ev_g1, Tryd.ev1_g1, rep4, tdl, tml]
  rw [sr1, sr1, sr1, sr1, sl63, sl63, sl63, or1 ha, or1 hb, or1 hc, u256_mk (n := n / 2) (by omega) (by omega) (by omega) (by omega) (by omega)]

set_option maxHeartbeats 1000000 in
theorem wshl1 (n : Nat) (hn : n < 115792089237316195423570985008687907853269984665640564039457584007913129639936) : SCall Tryd.prog 122 [(.arr 4 (.int .u64), u256 n), (.int .i64, .n 1)] (fun rs => rs = [.d (.arr 4 (.int .u64)) (u256 (2 * n % 115792089237316195423570985008687907853269984665640564039457584007913129639936))]) := by
  obtain ⟨a, b, c, d, ha, hb, hc, hd, en, eu⟩ := u256_open n hn
  rw [eu]
  refine scall_intro (n := 57) (rl := [.cell 4 45]) (us := [45]) Tryd.hT Tryd.func122 rfl rfl rfl rfl rfl (Nat.le_of_ble_eq_true rfl) ?_
  intro w0
  simp -dsimp -implicitDefEqProofs (disch := omega) only [↓gpre, ↓bldS, ↓bld, ↓reduceIte, ↓gmore, gpost, gall, keepT, den, del, upd, dels, refs, hasTy, sArgs, aRefs, rvs, nodupB, memB, app, pTm, Ty.bytes, kbytes, Ty.zeroD, Ty.size, Ty.cmp, Ty.depth, Go.SE.look, reduceCtorEq, Nat.reduceAdd, Nat.reduceSub, Nat.reduceMul, Nat.reduceEqDiff, Nat.reduceLT, Nat.reduceLeDiff, Nat.reduceMod, Nat.reduceDiv, Nat.reducePow, Nat.reduceBEq, Int.reduceToNat, Int.reduceLE, Int.reduceLT, Int.reduceEq, Int.reduceAdd, Int.reduceMul, Int.reduceSub, Int.reduceNeg, Int.reduceNe, Tryd.TS, Tryd.ev_g0, Tryd.ev1_g0, Tryd.ev_g1, Tryd.ev1_g1, rep4]
  refine sunrollK [1, 2, 4, 5, 6] Tryd.hT ?_; simp -dsimp -implicitDefEqProofs (disch := omega) only [↓gpre, ↓bldS, ↓bld, ↓reduceIte, ↓gmore, gpost, gall, keepT, den, del, upd, dels, refs, hasTy, sArgs, aRefs, rvs, nodupB, memB, app, pTm, Ty.bytes, kbytes, Ty.zeroD, Ty.size, Ty.cmp, Ty.depth, Go.SE.look, reduceCtorEq, Nat.reduceAdd, Nat.reduceSub, Nat.reduceMul, Nat.reduceEqDiff, Nat.reduceLT, Nat.reduceLeDiff, Nat.reduceMod, Nat.reduceDiv, Nat.reducePow, Nat.reduceBEq, Int.reduceToNat, Int.reduceLE, Int.reduceLT, Int.reduceEq, Int.reduceAdd, Int.reduceMul, Int.reduceSub, Int.reduceNeg, Int.reduceNe, Tryd.TS, Tryd.ev_g0, Tryd.ev1_g0, Tryd.ev_g1, Tryd.ev1_g1, rep4, tdl, tml]
  refine sdraw Tryd.hT (by kernel_rfl) [12] [0, 1, 2, 3, 4, 5, 6, 7, 8, 9, 10, 11, 12] (by kernel_rfl) (by kernel_rfl) (by kernel_rfl) ?_; simp only [pickO, List.getElem?_toArray, List.getElem?_cons_zero, List.getElem?_cons_succ]
  simp -dsimp -implicitDefEqProofs (disch := omega) only [↓gpre, ↓bldS, ↓bld, ↓reduceIte, ↓gmore, gpost, gall, keepT, den, del, upd, dels, refs, hasTy, sArgs, aRefs, rvs, nodupB, memB, app, pTm, Ty.bytes, kbytes, Ty.zeroD, Ty.size, Ty.cmp, Ty.depth, Go.SE.look, reduceCtorEq, Nat.reduceAdd, Nat.reduceSub, Nat.reduceMul, Nat.reduceEqDiff, Nat.reduceLT, Nat.reduceLeDiff, Nat.reduceMod, Nat.reduceDiv, Nat.reducePow, Nat.reduceBEq, Int.reduceToNat, Int.reduceLE, Int.reduceLT, Int.reduceEq, Int.reduceAdd, Int.reduceMul, Int.reduceSub, Int.reduceNeg, Int.reduceNe, Tryd.TS, Tryd.ev_g0, Tryd.ev1_g0, Tryd.ev_g1, Tryd.ev1_g1, rep4, tdl, tml]
  refine sunrollK [1, 2, 4, 5, 6] Tryd.hT ?_; simp -dsimp -implicitDefEqProofs (disch := omega) only [↓gpre, ↓bldS, ↓bld, ↓reduceIte, ↓gmore, gpost, gall, keepT, den, del, upd, dels, refs, hasTy, sArgs, aRefs, rvs, nodupB, memB, app, pTm, Ty.bytes, kbytes, Ty.zeroD, Ty.size, Ty.cmp, Ty.depth, Go.SE.look, reduceCtorEq, Nat.reduceAdd, Nat.reduceSub, Nat.reduceMul, Nat.reduceEqDiff, Nat.reduceLT, Nat.reduceLeDiff, Nat.reduceMod, Nat.reduceDiv, Nat.reducePow, Nat.reduceBEq, Int.reduceToNat, Int.reduceLE, Int.reduceLT, Int.reduceEq, Int.reduceAdd, Int.reduceMul, Int.reduceSub, Int.reduceNeg, Int.reduceNe, Tryd.TS, Tryd.ev_g0, Tryd.ev1_g0, Tryd.ev_g1, Tryd.ev1_g1, rep4, tdl, tml]
  refine sdraw Tryd.hT (by kernel_rfl) [12] [0, 1, 2, 3, 4, 5, 6, 7, 8, 9, 10, 11, 12] (by kernel_rfl) (by kernel_rfl) (by kernel_rfl) ?_; simp only [pickO, List.getElem?_toArray, List.getElem?_cons_zero, List.getElem?_cons_succ]
  simp -dsimp -implicitDefEqProofs (disch := omega) only [↓gpre, ↓bldS, ↓bld, ↓reduceIte, ↓gmore, gpost, gall, keepT, den, del, upd, dels, refs, hasTy, sArgs, aRefs, rvs, nodupB, memB, app, pTm, Ty.bytes, kbytes, Ty.zeroD, Ty.size, Ty.cmp, Ty.depth, Go.SE.look, reduceCtorEq, Nat.reduceAdd, Nat.reduceSub, Nat.reduceMul, Nat.reduceEqDiff, Nat.reduceLT, Nat.reduceLeDiff, Nat.reduceMod, Nat.reduceDiv, Nat.reducePow, Nat.reduceBEq, Int.reduceToNat, Int.reduceLE, Int.reduceLT, Int.reduceEq, Int.reduceAdd, Int.reduceMul, Int.reduceSub, Int.reduceNeg, Int.reduceNe, Tryd.TS, Tryd.ev_g0, Tryd.ev1_g0, Tryd.ev_g1, Tryd.ev1_g1, rep4, tdl, tml]
  refine sunrollK [1, 2, 4, 5, 6] Tryd.hT ?_; simp -dsimp -implicitDefEqProofs (disch := omega) only [↓gpre, ↓bldS, ↓bld, ↓reduceIte, ↓gmore, gpost, gall, keepT, den, del, upd, dels, refs, hasTy, sArgs, aRefs, rvs, nodupB, memB, app, pTm, Ty.bytes, kbytes, Ty.zeroD, Ty.size, Ty.cmp, Ty.depth, Go.SE.look, reduceCtorEq, Nat.reduceAdd, Nat.reduceSub, Nat.reduceMul, Nat.reduceEqDiff, Nat.reduceLT, Nat.reduceLeDiff, Nat.reduceMod, Nat.reduceDiv, Nat.reducePow, Nat.reduceBEq, Int.reduceToNat, Int.reduceLE, Int.reduceLT, Int.reduceEq, Int.reduceAdd, Int.reduceMul, Int.reduceSub, Int.reduceNeg, Int.reduceNe, Tryd.TS, Tryd.ev_g0, Tryd.ev1_g0, Tryd.ev_g1, Tryd.ev1_g1, rep4, tdl, tml]
  refine sdraw Tryd.hT (by kernel_rfl) [12] [0, 1, 2, 3, 4, 5, 6, 7, 8, 9, 10, 11, 12] (by kernel_rfl) (by kernel_rfl) (by kernel_rfl) ?_; simp only [pickO, List.getElem?_toArray, List.getElem?_cons_zero, List.getElem?_cons_succ]
  simp -dsimp -implicitDefEqProofs (disch := omega) only [↓gpre, ↓bldS, ↓bld, ↓reduceIte, ↓gmore, gpost, gall, keepT, den, del, upd, dels, refs, hasTy, sArgs, aRefs, rvs, nodupB, memB, app, pTm, Ty.bytes, kbytes, Ty.zeroD, Ty.size, Ty.cmp, Ty.depth, Go.SE.look, reduceCtorEq, Nat.reduceAdd, Nat.reduceSub, Nat.reduceMul, Nat.reduceEqDiff, Nat.reduceLT, Nat.reduceLeDiff, Nat.reduceMod, Nat.reduceDiv, Nat.reducePow, Nat.reduceBEq, Int.reduceToNat, Int.reduceLE, Int.reduceLT, Int.reduceEq, Int.reduceAdd, Int.reduceMul, Int.reduceSub, Int.reduceNeg, Int.reduceNe, Tryd.TS, Tryd.ev_g0, Tryd.ev1_g0, Tryd.ev_g1, Tryd.ev1_g1, rep4, tdl, tml]
  refine sunrollK [1, 2, 4, 5, 6] Tryd.hT ?_; simp -dsimp -implicitDefEqProofs (disch := omega) only [↓gpre, ↓bldS, ↓bld, ↓reduceIte, ↓gmore, gpost, gall, keepT, den, del, upd, dels, refs, hasTy, sArgs, aRefs, rvs, nodupB, memB, app, pTm, Ty.bytes, kbytes, Ty.zeroD, Ty.size, Ty.cmp, Ty.depth, Go.SE.look, reduceCtorEq, Nat.reduceAdd, Nat.reduceSub, Nat.reduceMul, Nat.reduceEqDiff, Nat.reduceLT, Nat.reduceLeDiff, Nat.reduceMod, Nat.reduceDiv, Nat.reducePow, Nat.reduceBEq, Int.reduceToNat, Int.reduceLE, Int.reduceLT, Int.reduceEq, Int.reduceAdd, Int.reduceMul, Int.reduceSub, Int.reduceNeg, Int.reduceNe, Tryd.TS, Tryd.ev_g0, Tryd.ev1_g0, Tryd.ev_g1, Tryd.ev1_g1, rep4, tdl, tml]
  refine sunrollK [1, 2, 4, 5, 6] Tryd.hT ?_; simp -dsimp -implicitDefEqProofs (disch := omega) only [↓gpre, ↓bldS, ↓bld, ↓reduceIte, ↓gmore, gpost, gall, keepT, den, del, upd, dels, refs, hasTy, sArgs, aRefs, rvs, nodupB, memB, app, pTm, Ty.bytes, kbytes, Ty.zeroD, Ty.size, Ty.cmp, Ty.depth, Go.SE.look, reduceCtorEq, Nat.reduceAdd, Nat.reduceSub, Nat.reduceMul, Nat.reduceEqDiff, Nat.reduceLT, Nat.reduceLeDiff, Nat.reduceMod, Nat.reduceDiv, Nat.reducePow, Nat.reduceBEq, Int.reduceToNat, Int.reduceLE, Int.reduceLT, Int.reduceEq, Int.reduceAdd, Int.reduceMul, Int.reduceSub, Int.reduceNeg, Int.reduceNe, Tryd.TS, Tryd.ev_g0, Tryd.ev1_g0, Tryd.ev_g1, Tryd.ev1_g1, rep4, tdl, tml]
  rw [sl1, sl1, sl1, sl1, sr63, sr63, sr63, or2 ha, or2 hb, or2 hc, u256_mk (n := 2 * n % 115792089237316195423570985008687907853269984665640564039457584007913129639936) (by omega) (by omega) (by omega) (by omega) (by omega)]

end Go.Proofs
/- Numbers of 256 bits: products. -/
namespace Go.Proofs
open Go.SE

def nl (p : List Nat) : D := .l (p.map fun (n : Nat) => .n (n : Int))
theorem nl_at (p : List Nat) (k : Nat) : D.at (nl p) k = .n ((p.getD k 0 : Nat) : Int) := by
  simp only [D.at, nl, D.list, List.getD_eq_getElem?_getD, List.getElem?_map]
  cases p[k]? with
  | none => rfl
  | some x => rfl
theorem nl_set (p : List Nat) (k v : Nat) : D.l ((nl p).list.set k (.n (v : Int))) = nl (p.set k v) := by
  simp only [nl, D.list, List.map_set]
theorem nl_len (p : List Nat) : (nl p).list.length = p.length := by simp [nl, D.list]

def valL : List Nat → Nat
  | [] => 0
  | x :: r => x + 18446744073709551616 * valL r
theorem valL_set : ∀ (p : List Nat) (k v : Nat), k < p.length → valL (p.set k v) + p.getD k 0 * 18446744073709551616 ^ k = valL p + v * 18446744073709551616 ^ k
  | [], k, v, h => by simp at h
  | x :: r, 0, v, _ => by simp [valL]; omega
  | x :: r, k + 1, v, h => by
    have ih := valL_set r k v (by simpa using h)
    have e := congrArg (18446744073709551616 * ·) ih
    simp only [Nat.mul_add] at e
    simp only [List.set_cons_succ, valL, List.getD_cons_succ, Nat.pow_succ]
    have e1 : r.getD k 0 * (18446744073709551616 ^ k * 18446744073709551616) = 18446744073709551616 * (r.getD k 0 * 18446744073709551616 ^ k) := by rw [← Nat.mul_assoc, Nat.mul_comm]
    have e2 : v * (18446744073709551616 ^ k * 18446744073709551616) = 18446744073709551616 * (v * 18446744073709551616 ^ k) := by rw [← Nat.mul_assoc, Nat.mul_comm]
    rw [e1, e2]
    omega

theorem mul_step {V V' pk s c c' x y K r P0 E J : Nat} (hK : K = E * J) (hset : V' + pk * K = V + s * K) (hs : s + 18446744073709551616 * c' = x * y + pk + c) (inv : V + c * K = P0 + x * (E * r)) :
    V' + c' * (K * 18446744073709551616) = P0 + x * (E * (r + J * y)) := by
  have h1 := congrArg (· * K) hs
  simp only [Nat.add_mul] at h1
  have e1 : c' * (K * 18446744073709551616) = 18446744073709551616 * c' * K := by rw [← Nat.mul_assoc, Nat.mul_comm, ← Nat.mul_assoc]
  have e2 : x * (E * (r + J * y)) = x * (E * r) + x * y * K := by
    rw [hK, Nat.mul_add, Nat.mul_add]
    congr 1
    rw [Nat.mul_assoc x y, Nat.mul_left_comm y, Nat.mul_comm y]
  rw [e1, e2]
  omega

theorem carry_lt {x y p c s c' : Nat} (hx : x < 18446744073709551616) (hy : y < 18446744073709551616) (hp : p < 18446744073709551616) (hc : c < 18446744073709551616) (h : s + 18446744073709551616 * c' = x * y + p + c) : c' < 18446744073709551616 := by
  have : x * y ≤ 18446744073709551615 * 18446744073709551615 := Nat.mul_le_mul (by omega) (by omega)
  omega

theorem mod_step (n j : Nat) : n % 2 ^ (64 * (j + 1)) = n % 2 ^ (64 * j) + 18446744073709551616 ^ j * (n / 2 ^ (64 * j) % 18446744073709551616) := by
  rw [show 64 * (j + 1) = 64 * j + 64 by omega, Nat.pow_add, Nat.mod_mul]
  congr 2
  rw [Nat.pow_mul]

structure MulI (p : List Nat) : Prop where
  len : p.length = 8
  lt : ∀ k, p.getD k 0 < 18446744073709551616

theorem MulI.set {p : List Nat} (h : MulI p) {k v : Nat} (hv : v < 18446744073709551616) : MulI (p.set k v) := by
  refine ⟨by simpa using h.len, fun j => ?_⟩
  rw [List.getD_eq_getElem?_getD, List.getElem?_set]
  split
  · split
    · simpa using hv
    · simp
  · have := h.lt j; rwa [List.getD_eq_getElem?_getD] at this

set_option maxHeartbeats 2000000 in
theorem wmul (m n : Nat) (hm : m < 115792089237316195423570985008687907853269984665640564039457584007913129639936) (hn : n < 115792089237316195423570985008687907853269984665640564039457584007913129639936) : SCall Tryd.prog 87 [(.arr 4 (.int .u64), u256 m), (.arr 4 (.int .u64), u256 n)] (fun rs => rs = [.d (.arr 4 (.int .u64)) (u256 (m * n / 115792089237316195423570985008687907853269984665640564039457584007913129639936)), .d (.arr 4 (.int .u64)) (u256 (m * n % 115792089237316195423570985008687907853269984665640564039457584007913129639936))]) := by
  refine scall_intro (n := 72) (rl := [.cell 4 45, .cell 5 45]) (us := [45, 45]) Tryd.hT Tryd.func87 rfl rfl rfl rfl rfl (Nat.le_of_ble_eq_true rfl) ?_
  intro w0
  simp -dsimp -implicitDefEqProofs (disch := omega) only [↓gpre, ↓bldS, ↓bld, ↓reduceIte, ↓gmore, gpost, gall, keepT, den, del, upd, dels, refs, hasTy, sArgs, aRefs, rvs, nodupB, memB, app, pTm, Ty.bytes, kbytes, Ty.zeroD, Ty.size, Ty.cmp, Ty.depth, Go.SE.look, reduceCtorEq, Nat.reduceAdd, Nat.reduceSub, Nat.reduceMul, Nat.reduceEqDiff, Nat.reduceLT, Nat.reduceLeDiff, Nat.reduceMod, Nat.reduceDiv, Nat.reducePow, Nat.reduceBEq, Int.reduceToNat, Int.reduceLE, Int.reduceLT, Int.reduceEq, Int.reduceAdd, Int.reduceMul, Int.reduceSub, Int.reduceNeg, Int.reduceNe, Tryd.TS, Tryd.ev_g0, Tryd.ev1_g0, Tryd.ev_g1, Tryd.ev1_g1, rep4, rep8]
  refine sloop Tryd.hT (α := Nat × List Nat) (fun x => ⟨72, [(16, .v (.d (.int .i64) (.n x.1))), (15, .v (.d (.arr 4 (.int .u64)) (u256 m))), (2, .v (.ptr 0 [])), (3, .v (.ptr 1 [])), (4, .v (.ptr 2 [])), (5, .v (.ptr 3 [])), (6, .v (.ptr 4 []))],
      [(0, ⟨.arr 4 (.int .u64), .d (.arr 4 (.int .u64)) (u256 m)⟩), (1, ⟨.arr 4 (.int .u64), .d (.arr 4 (.int .u64)) (u256 n)⟩), (2, ⟨.arr 4 (.int .u64), .d (.arr 4 (.int .u64)) (.l [.n 0, .n 0, .n 0, .n 0])⟩), (3, ⟨.arr 4 (.int .u64), .d (.arr 4 (.int .u64)) (.l [.n 0, .n 0, .n 0, .n 0])⟩), (4, ⟨.arr 8 (.int .u64), .d (.arr 8 (.int .u64)) (nl x.2)⟩)], 5⟩)
    (fun x => x.1 ≤ 4 ∧ MulI x.2 ∧ (∀ k, x.1 + 4 ≤ k → x.2.getD k 0 = 0) ∧ valL x.2 = m % 2 ^ (64 * x.1) * n) (fun x => 4 - x.1) (0, [0, 0, 0, 0, 0, 0, 0, 0]) ?_ ?_ ?_
  · refine sub_ren w0 [(0, 0), (1, 1), (2, 2), (3, 3), (4, 4)] rfl (by simp [keysLt]) rfl ?_ ?_
    · simp [renTm, Go.SE.look, renTV, renSV]
    · simp [renOb, Go.SE.look, renSV, nl]
  · refine ⟨by omega, ⟨rfl, fun k => ?_⟩, fun k hk => ?_, by simp [valL, Nat.mod_one]⟩
    · match k with
      | 0 | 1 | 2 | 3 | 4 | 5 | 6 | 7 => simp
      | k + 8 => simp
    · match k, hk with
      | 4, _ | 5, _ | 6, _ | 7, _ => simp
      | k + 8, _ => simp
  rintro ⟨i, p0⟩ ⟨hi, hI, hz, hv⟩
  simp only at hi hI hz hv
  simp -dsimp -implicitDefEqProofs (disch := omega) only [↓gpre, ↓bldS, ↓bld, ↓reduceIte, ↓gmore, gpost, gall, keepT, den, del, upd, dels, refs, hasTy, sArgs, aRefs, rvs, nodupB, memB, app, pTm, Ty.bytes, kbytes, Ty.zeroD, Ty.size, Ty.cmp, Ty.depth, Go.SE.look, reduceCtorEq, Nat.reduceAdd, Nat.reduceSub, Nat.reduceMul, Nat.reduceEqDiff, Nat.reduceLT, Nat.reduceLeDiff, Nat.reduceMod, Nat.reduceDiv, Nat.reducePow, Nat.reduceBEq, Int.reduceToNat, Int.reduceLE, Int.reduceLT, Int.reduceEq, Int.reduceAdd, Int.reduceMul, Int.reduceSub, Int.reduceNeg, Int.reduceNe, Tryd.TS, Tryd.ev_g0, Tryd.ev1_g0, Tryd.ev_g1, Tryd.ev1_g1]
  refine HIf_dec (fun h => ?_) (fun h => ?_)
  · have hi4 : i < 4 := by omega
    simp -dsimp -implicitDefEqProofs (disch := omega) only [↓gpre, ↓bldS, ↓bld, ↓reduceIte, ↓gmore, gpost, gall, keepT, den, del, upd, dels, refs, hasTy, sArgs, aRefs, rvs, nodupB, memB, app, pTm, Ty.bytes, kbytes, Ty.zeroD, Ty.size, Ty.cmp, Ty.depth, Go.SE.look, reduceCtorEq, Nat.reduceAdd, Nat.reduceSub, Nat.reduceMul, Nat.reduceEqDiff, Nat.reduceLT, Nat.reduceLeDiff, Nat.reduceMod, Nat.reduceDiv, Nat.reducePow, Nat.reduceBEq, Int.reduceToNat, Int.reduceLE, Int.reduceLT, Int.reduceEq, Int.reduceAdd, Int.reduceMul, Int.reduceSub, Int.reduceNeg, Int.reduceNe, Tryd.TS, Tryd.ev_g0, Tryd.ev1_g0, Tryd.ev_g1, Tryd.ev1_g1, u256_at m hi4, u256_list]
    repeat (refine And.intro (by omega) ?_)
    have hx : m / 2 ^ (64 * i) % 18446744073709551616 < 18446744073709551616 := Nat.mod_lt _ (by omega)
    have hstep := mod_step m i
    generalize m / 2 ^ (64 * i) % 18446744073709551616 = x at *
    refine sloop Tryd.hT (α := Nat × List Nat × Nat) (fun z => ⟨72, [(21, .v (.d (.int .i64) (.n z.1))), (20, .v (.d (.arr 4 (.int .u64)) (u256 n))), (7, .v (.d (.int .i64) (.n i))), (8, .v (.d (.int .u64) (.n x))), (9, .v (.d (.int .u64) (.n z.2.2))), (16, .v (.d (.int .i64) (.n i))), (15, .v (.d (.arr 4 (.int .u64)) (u256 m))), (2, .v (.ptr 0 [])), (3, .v (.ptr 1 [])), (4, .v (.ptr 2 [])), (5, .v (.ptr 3 [])), (6, .v (.ptr 4 []))],
      [(0, ⟨.arr 4 (.int .u64), .d (.arr 4 (.int .u64)) (u256 m)⟩), (1, ⟨.arr 4 (.int .u64), .d (.arr 4 (.int .u64)) (u256 n)⟩), (2, ⟨.arr 4 (.int .u64), .d (.arr 4 (.int .u64)) (.l [.n 0, .n 0, .n 0, .n 0])⟩), (3, ⟨.arr 4 (.int .u64), .d (.arr 4 (.int .u64)) (.l [.n 0, .n 0, .n 0, .n 0])⟩), (4, ⟨.arr 8 (.int .u64), .d (.arr 8 (.int .u64)) (nl z.2.1)⟩)], 5⟩)
      (fun z => z.1 ≤ 4 ∧ MulI z.2.1 ∧ z.2.2 < 18446744073709551616 ∧ (∀ k, i + 4 ≤ k → z.2.1.getD k 0 = 0) ∧ valL z.2.1 + z.2.2 * 18446744073709551616 ^ (i + z.1) = valL p0 + x * (18446744073709551616 ^ i * (n % 2 ^ (64 * z.1)))) (fun z => 4 - z.1) (0, p0, 0) ?_ ?_ ?_
    · refine sub_ren w0 [(0, 0), (1, 1), (2, 2), (3, 3), (4, 4)] rfl (by simp [keysLt]) rfl ?_ ?_
      · simp [renTm, Go.SE.look, renTV, renSV]
      · simp [renOb, Go.SE.look, renSV]
    · exact ⟨by omega, hI, by simp, hz, by simp [Nat.mod_one]⟩
    rintro ⟨j, p, c⟩ ⟨hj, hP, hc, hzp, hV⟩
    simp only at hj hP hc hzp hV
    simp -dsimp -implicitDefEqProofs (disch := omega) only [↓gpre, ↓bldS, ↓bld, ↓reduceIte, ↓gmore, gpost, gall, keepT, den, del, upd, dels, refs, hasTy, sArgs, aRefs, rvs, nodupB, memB, app, pTm, Ty.bytes, kbytes, Ty.zeroD, Ty.size, Ty.cmp, Ty.depth, Go.SE.look, reduceCtorEq, Nat.reduceAdd, Nat.reduceSub, Nat.reduceMul, Nat.reduceEqDiff, Nat.reduceLT, Nat.reduceLeDiff, Nat.reduceMod, Nat.reduceDiv, Nat.reducePow, Nat.reduceBEq, Int.reduceToNat, Int.reduceLE, Int.reduceLT, Int.reduceEq, Int.reduceAdd, Int.reduceMul, Int.reduceSub, Int.reduceNeg, Int.reduceNe, Tryd.TS, Tryd.ev_g0, Tryd.ev1_g0, Tryd.ev_g1, Tryd.ev1_g1]
    refine HIf_dec (fun hj4 => ?_) (fun hj4 => ?_)
    · have hj4' : j < 4 := by omega
      simp -dsimp -implicitDefEqProofs (disch := omega) only [↓gpre, ↓bldS, ↓bld, ↓reduceIte, ↓gmore, gpost, gall, keepT, den, del, upd, dels, refs, hasTy, sArgs, aRefs, rvs, nodupB, memB, app, pTm, Ty.bytes, kbytes, Ty.zeroD, Ty.size, Ty.cmp, Ty.depth, Go.SE.look, reduceCtorEq, Nat.reduceAdd, Nat.reduceSub, Nat.reduceMul, Nat.reduceEqDiff, Nat.reduceLT, Nat.reduceLeDiff, Nat.reduceMod, Nat.reduceDiv, Nat.reducePow, Nat.reduceBEq, Int.reduceToNat, Int.reduceLE, Int.reduceLT, Int.reduceEq, Int.reduceAdd, Int.reduceMul, Int.reduceSub, Int.reduceNeg, Int.reduceNe, Tryd.TS, Tryd.ev_g0, Tryd.ev1_g0, Tryd.ev_g1, Tryd.ev1_g1, u256_at n hj4', u256_list]
      repeat (refine And.intro (by omega) ?_)
      have hy : n / 2 ^ (64 * j) % 18446744073709551616 < 18446744073709551616 := Nat.mod_lt _ (by omega)
      have hstepn := mod_step n j
      generalize n / 2 ^ (64 * j) % 18446744073709551616 = y at *
      refine mul64 x y hx hy (fun l h hlh hl hh => ?_)
      have hpk := hP.lt (i + j)
      have hlen := hP.len
      simp -dsimp -implicitDefEqProofs (disch := omega) only [↓gpre, ↓bldS, ↓bld, ↓reduceIte, ↓gmore, gpost, gall, keepT, den, del, upd, dels, refs, hasTy, sArgs, aRefs, rvs, nodupB, memB, app, pTm, Ty.bytes, kbytes, Ty.zeroD, Ty.size, Ty.cmp, Ty.depth, Go.SE.look, reduceCtorEq, Nat.reduceAdd, Nat.reduceSub, Nat.reduceMul, Nat.reduceEqDiff, Nat.reduceLT, Nat.reduceLeDiff, Nat.reduceMod, Nat.reduceDiv, Nat.reducePow, Nat.reduceBEq, Int.reduceToNat, Int.reduceLE, Int.reduceLT, Int.reduceEq, Int.reduceAdd, Int.reduceMul, Int.reduceSub, Int.reduceNeg, Int.reduceNe, Tryd.TS, Tryd.ev_g0, Tryd.ev1_g0, Tryd.ev_g1, Tryd.ev1_g1, nl_at]
      repeat (refine And.intro (by omega) ?_)
      refine add64 l (p.getD (i + j) 0) 0 hl hpk (by omega) (fun s1 c1 e1 l1 m1 => ?_)
      simp -dsimp -implicitDefEqProofs (disch := omega) only [↓gpre, ↓bldS, ↓bld, ↓reduceIte, ↓gmore, gpost, gall, keepT, den, del, upd, dels, refs, hasTy, sArgs, aRefs, rvs, nodupB, memB, app, pTm, Ty.bytes, kbytes, Ty.zeroD, Ty.size, Ty.cmp, Ty.depth, Go.SE.look, reduceCtorEq, Nat.reduceAdd, Nat.reduceSub, Nat.reduceMul, Nat.reduceEqDiff, Nat.reduceLT, Nat.reduceLeDiff, Nat.reduceMod, Nat.reduceDiv, Nat.reducePow, Nat.reduceBEq, Int.reduceToNat, Int.reduceLE, Int.reduceLT, Int.reduceEq, Int.reduceAdd, Int.reduceMul, Int.reduceSub, Int.reduceNeg, Int.reduceNe, Tryd.TS, Tryd.ev_g0, Tryd.ev1_g0, Tryd.ev_g1, Tryd.ev1_g1]
      refine add64 s1 c 0 l1 hc (by omega) (fun s2 c2 e2 l2 m2 => ?_)
      have htot : s2 + 18446744073709551616 * (h + c1 + c2) = x * y + p.getD (i + j) 0 + c := by omega
      have hct := carry_lt hx hy hpk hc htot
      simp -dsimp -implicitDefEqProofs (disch := omega) only [↓gpre, ↓bldS, ↓bld, ↓reduceIte, ↓gmore, gpost, gall, keepT, den, del, upd, dels, refs, hasTy, sArgs, aRefs, rvs, nodupB, memB, app, pTm, Ty.bytes, kbytes, Ty.zeroD, Ty.size, Ty.cmp, Ty.depth, Go.SE.look, reduceCtorEq, Nat.reduceAdd, Nat.reduceSub, Nat.reduceMul, Nat.reduceEqDiff, Nat.reduceLT, Nat.reduceLeDiff, Nat.reduceMod, Nat.reduceDiv, Nat.reducePow, Nat.reduceBEq, Int.reduceToNat, Int.reduceLE, Int.reduceLT, Int.reduceEq, Int.reduceAdd, Int.reduceMul, Int.reduceSub, Int.reduceNeg, Int.reduceNe, Tryd.TS, Tryd.ev_g0, Tryd.ev1_g0, Tryd.ev_g1, Tryd.ev1_g1, show IntKind.u64.wrap (IntKind.u64.wrap ((h : Int) + (c1 : Int)) + (c2 : Int)) = ((h + c1 + c2 : Nat) : Int) by rw [IntWalk.u64_in ((h : Int) + c1) (by omega), IntWalk.u64_in _ (by omega)]; omega, nl_set, nl_len]
      repeat (refine And.intro (by omega) ?_)
      refine ⟨(j + 1, p.set (i + j) s2, h + c1 + c2), ⟨by omega, hP.set l2, hct, fun k hk => ?_, ?_⟩, by omega, ?_⟩
      · have := hzp k hk
        rw [List.getD_eq_getElem?_getD, List.getElem?_set, if_neg (by omega), ← List.getD_eq_getElem?_getD]
        exact this
      · have hset := valL_set p (i + j) s2 (by omega)
        have := mul_step (K := 18446744073709551616 ^ (i + j)) (E := 18446744073709551616 ^ i) (J := 18446744073709551616 ^ j) (Nat.pow_add _ _ _) hset htot hV
        rw [← Nat.pow_succ, ← hstepn] at this
        exact this
      · refine sub_ren w0 [(0, 0), (1, 1), (2, 2), (3, 3), (4, 4)] rfl (by simp [keysLt]) rfl ?_ ?_
        · simp [renTm, Go.SE.look, renTV, renSV]
        · simp [renOb, Go.SE.look, renSV]
    · have : j = 4 := by omega
      subst this
      have hlen := hP.len
      simp -dsimp -implicitDefEqProofs (disch := omega) only [↓gpre, ↓bldS, ↓bld, ↓reduceIte, ↓gmore, gpost, gall, keepT, den, del, upd, dels, refs, hasTy, sArgs, aRefs, rvs, nodupB, memB, app, pTm, Ty.bytes, kbytes, Ty.zeroD, Ty.size, Ty.cmp, Ty.depth, Go.SE.look, reduceCtorEq, Nat.reduceAdd, Nat.reduceSub, Nat.reduceMul, Nat.reduceEqDiff, Nat.reduceLT, Nat.reduceLeDiff, Nat.reduceMod, Nat.reduceDiv, Nat.reducePow, Nat.reduceBEq, Int.reduceToNat, Int.reduceLE, Int.reduceLT, Int.reduceEq, Int.reduceAdd, Int.reduceMul, Int.reduceSub, Int.reduceNeg, Int.reduceNe, Tryd.TS, Tryd.ev_g0, Tryd.ev1_g0, Tryd.ev_g1, Tryd.ev1_g1, nl_set, nl_len]
      repeat (refine And.intro (by omega) ?_)
      refine ⟨(i + 1, p.set (i + 4) c), ⟨by omega, hP.set hc, fun k hk => ?_, ?_⟩, by simp; omega, ?_⟩
      · rw [List.getD_eq_getElem?_getD, List.getElem?_set, if_neg (by simp at hk; omega), ← List.getD_eq_getElem?_getD]
        exact hzp k (by simp at hk; omega)
      · have hset := valL_set p (i + 4) c (by omega)
        rw [hzp (i + 4) (by omega), Nat.zero_mul, Nat.add_zero, hV, hv, Nat.mod_eq_of_lt (a := n) hn] at hset
        show valL (p.set (i + 4) c) = _
        rw [hset, hstep, Nat.add_mul]
        congr 1
        rw [← Nat.mul_assoc, Nat.mul_comm x]
      · refine sub_ren w0 [(0, 0), (1, 1), (2, 2), (3, 3), (4, 4)] rfl (by simp [keysLt]) rfl ?_ ?_
        · simp [renTm, Go.SE.look, renTV, renSV]
        · simp [renOb, Go.SE.look, renSV]
  · have : i = 4 := by omega
    subst this
    have hlen := hI.len
    rw [Nat.mod_eq_of_lt (a := m) hm] at hv
    have hlt := hI.lt
    match p0, hlen with
    | [a0, a1, a2, a3, a4, a5, a6, a7], _ =>
    have q0 := hlt 0
    have q1 := hlt 1
    have q2 := hlt 2
    have q3 := hlt 3
    have q4 := hlt 4
    have q5 := hlt 5
    have q6 := hlt 6
    have q7 := hlt 7
    simp only [List.getD_cons_zero, List.getD_cons_succ] at q0 q1 q2 q3 q4 q5 q6 q7
    simp only [valL] at hv
    simp only [nl, List.map_cons, List.map_nil]
    simp -dsimp -implicitDefEqProofs (disch := omega) only [↓gpre, ↓bldS, ↓bld, ↓reduceIte, ↓gmore, gpost, gall, keepT, den, del, upd, dels, refs, hasTy, sArgs, aRefs, rvs, nodupB, memB, app, pTm, Ty.bytes, kbytes, Ty.zeroD, Ty.size, Ty.cmp, Ty.depth, Go.SE.look, reduceCtorEq, Nat.reduceAdd, Nat.reduceSub, Nat.reduceMul, Nat.reduceEqDiff, Nat.reduceLT, Nat.reduceLeDiff, Nat.reduceMod, Nat.reduceDiv, Nat.reducePow, Nat.reduceBEq, Int.reduceToNat, Int.reduceLE, Int.reduceLT, Int.reduceEq, Int.reduceAdd, Int.reduceMul, Int.reduceSub, Int.reduceNeg, Int.reduceNe, Tryd.TS, Tryd.ev_g0, Tryd.ev1_g0, Tryd.ev_g1, Tryd.ev1_g1]
    refine sdraw Tryd.hT (by kernel_rfl) [2] [0, 1, 2] (by kernel_rfl) (by kernel_rfl) (by kernel_rfl) ?_; simp only [pickO, List.getElem?_toArray, List.getElem?_cons_zero, List.getElem?_cons_succ]
    simp -dsimp -implicitDefEqProofs (disch := omega) only [↓gpre, ↓bldS, ↓bld, ↓reduceIte, ↓gmore, gpost, gall, keepT, den, del, upd, dels, refs, hasTy, sArgs, aRefs, rvs, nodupB, memB, app, pTm, Ty.bytes, kbytes, Ty.zeroD, Ty.size, Ty.cmp, Ty.depth, Go.SE.look, reduceCtorEq, Nat.reduceAdd, Nat.reduceSub, Nat.reduceMul, Nat.reduceEqDiff, Nat.reduceLT, Nat.reduceLeDiff, Nat.reduceMod, Nat.reduceDiv, Nat.reducePow, Nat.reduceBEq, Int.reduceToNat, Int.reduceLE, Int.reduceLT, Int.reduceEq, Int.reduceAdd, Int.reduceMul, Int.reduceSub, Int.reduceNeg, Int.reduceNe, Tryd.TS, Tryd.ev_g0, Tryd.ev1_g0, Tryd.ev_g1, Tryd.ev1_g1, Nat.min_self]
    refine sdraw Tryd.hT (by kernel_rfl) [2] [0, 1, 2] (by kernel_rfl) (by kernel_rfl) (by kernel_rfl) ?_; simp only [pickO, List.getElem?_toArray, List.getElem?_cons_zero, List.getElem?_cons_succ]
    simp -dsimp -implicitDefEqProofs (disch := omega) only [↓gpre, ↓bldS, ↓bld, ↓reduceIte, ↓gmore, gpost, gall, keepT, den, del, upd, dels, refs, hasTy, sArgs, aRefs, rvs, nodupB, memB, app, pTm, Ty.bytes, kbytes, Ty.zeroD, Ty.size, Ty.cmp, Ty.depth, Go.SE.look, reduceCtorEq, Nat.reduceAdd, Nat.reduceSub, Nat.reduceMul, Nat.reduceEqDiff, Nat.reduceLT, Nat.reduceLeDiff, Nat.reduceMod, Nat.reduceDiv, Nat.reducePow, Nat.reduceBEq, Int.reduceToNat, Int.reduceLE, Int.reduceLT, Int.reduceEq, Int.reduceAdd, Int.reduceMul, Int.reduceSub, Int.reduceNeg, Int.reduceNe, Tryd.TS, Tryd.ev_g0, Tryd.ev1_g0, Tryd.ev_g1, Tryd.ev1_g1, Nat.min_self]
    rw [u256_mk (n := m * n % 115792089237316195423570985008687907853269984665640564039457584007913129639936) q0 q1 q2 q3 (by omega), u256_mk (n := m * n / 115792089237316195423570985008687907853269984665640564039457584007913129639936) q4 q5 q6 q7 (by omega)]
end Go.Proofs
/- Numbers of 256 bits: products, by the reference. -/
namespace Go.Proofs
open Go.SE
set_option maxHeartbeats 2000000 in
theorem wmulRef (m n : Nat) (hm : m < 115792089237316195423570985008687907853269984665640564039457584007913129639936) (hn : n < 115792089237316195423570985008687907853269984665640564039457584007913129639936) : SCall Tryd.prog 115 [(.arr 4 (.int .u64), u256 m), (.arr 4 (.int .u64), u256 n)] (fun rs => rs = [.d (.arr 4 (.int .u64)) (u256 (m * n / 115792089237316195423570985008687907853269984665640564039457584007913129639936)), .d (.arr 4 (.int .u64)) (u256 (m * n % 115792089237316195423570985008687907853269984665640564039457584007913129639936))]) := by
  refine scall_intro (n := 71) (rl := [.cell 4 45, .cell 5 45]) (us := [45, 45]) Tryd.hT Tryd.func115 rfl rfl rfl rfl rfl (Nat.le_of_ble_eq_true rfl) ?_
  intro w0
  simp -dsimp -implicitDefEqProofs (disch := omega) only [↓gpre, ↓bldS, ↓bld, ↓reduceIte, ↓gmore, gpost, gall, keepT, den, del, upd, dels, refs, hasTy, sArgs, aRefs, rvs, nodupB, memB, app, pTm, Ty.bytes, kbytes, Ty.zeroD, Ty.size, Ty.cmp, Ty.depth, Go.SE.look, reduceCtorEq, Nat.reduceAdd, Nat.reduceSub, Nat.reduceMul, Nat.reduceEqDiff, Nat.reduceLT, Nat.reduceLeDiff, Nat.reduceMod, Nat.reduceDiv, Nat.reducePow, Nat.reduceBEq, Int.reduceToNat, Int.reduceLE, Int.reduceLT, Int.reduceEq, Int.reduceAdd, Int.reduceMul, Int.reduceSub, Int.reduceNeg, Int.reduceNe, Tryd.TS, Tryd.ev_g0, Tryd.ev1_g0, Tryd.ev_g1, Tryd.ev1_g1, rep4, rep8]
  refine sloop Tryd.hT (α := Nat × List Nat) (fun x => ⟨71, [(15, .v (.d (.int .i64) (.n x.1))), (2, .v (.ptr 0 [])), (3, .v (.ptr 1 [])), (4, .v (.ptr 2 [])), (5, .v (.ptr 3 [])), (6, .v (.ptr 4 []))],
      [(0, ⟨.arr 4 (.int .u64), .d (.arr 4 (.int .u64)) (u256 m)⟩), (1, ⟨.arr 4 (.int .u64), .d (.arr 4 (.int .u64)) (u256 n)⟩), (2, ⟨.arr 4 (.int .u64), .d (.arr 4 (.int .u64)) (.l [.n 0, .n 0, .n 0, .n 0])⟩), (3, ⟨.arr 4 (.int .u64), .d (.arr 4 (.int .u64)) (.l [.n 0, .n 0, .n 0, .n 0])⟩), (4, ⟨.arr 8 (.int .u64), .d (.arr 8 (.int .u64)) (nl x.2)⟩)], 5⟩)
    (fun x => x.1 ≤ 4 ∧ MulI x.2 ∧ (∀ k, x.1 + 4 ≤ k → x.2.getD k 0 = 0) ∧ valL x.2 = m % 2 ^ (64 * x.1) * n) (fun x => 4 - x.1) (0, [0, 0, 0, 0, 0, 0, 0, 0]) ?_ ?_ ?_
  · refine sub_ren w0 [(0, 0), (1, 1), (2, 2), (3, 3), (4, 4)] rfl (by simp [keysLt]) rfl ?_ ?_
    · simp [renTm, Go.SE.look, renTV, renSV]
    · simp [renOb, Go.SE.look, renSV, nl]
  · refine ⟨by omega, ⟨rfl, fun k => ?_⟩, fun k hk => ?_, by simp [valL, Nat.mod_one]⟩
    · match k with
      | 0 | 1 | 2 | 3 | 4 | 5 | 6 | 7 => simp
      | k + 8 => simp
    · match k, hk with
      | 4, _ | 5, _ | 6, _ | 7, _ => simp
      | k + 8, _ => simp
  rintro ⟨i, p0⟩ ⟨hi, hI, hz, hv⟩
  simp only at hi hI hz hv
  simp -dsimp -implicitDefEqProofs (disch := omega) only [↓gpre, ↓bldS, ↓bld, ↓reduceIte, ↓gmore, gpost, gall, keepT, den, del, upd, dels, refs, hasTy, sArgs, aRefs, rvs, nodupB, memB, app, pTm, Ty.bytes, kbytes, Ty.zeroD, Ty.size, Ty.cmp, Ty.depth, Go.SE.look, reduceCtorEq, Nat.reduceAdd, Nat.reduceSub, Nat.reduceMul, Nat.reduceEqDiff, Nat.reduceLT, Nat.reduceLeDiff, Nat.reduceMod, Nat.reduceDiv, Nat.reducePow, Nat.reduceBEq, Int.reduceToNat, Int.reduceLE, Int.reduceLT, Int.reduceEq, Int.reduceAdd, Int.reduceMul, Int.reduceSub, Int.reduceNeg, Int.reduceNe, Tryd.TS, Tryd.ev_g0, Tryd.ev1_g0, Tryd.ev_g1, Tryd.ev1_g1]
  refine HIf_dec (fun h => ?_) (fun h => ?_)
  · have hi4 : i < 4 := by omega
    simp -dsimp -implicitDefEqProofs (disch := omega) only [↓gpre, ↓bldS, ↓bld, ↓reduceIte, ↓gmore, gpost, gall, keepT, den, del, upd, dels, refs, hasTy, sArgs, aRefs, rvs, nodupB, memB, app, pTm, Ty.bytes, kbytes, Ty.zeroD, Ty.size, Ty.cmp, Ty.depth, Go.SE.look, reduceCtorEq, Nat.reduceAdd, Nat.reduceSub, Nat.reduceMul, Nat.reduceEqDiff, Nat.reduceLT, Nat.reduceLeDiff, Nat.reduceMod, Nat.reduceDiv, Nat.reducePow, Nat.reduceBEq, Int.reduceToNat, Int.reduceLE, Int.reduceLT, Int.reduceEq, Int.reduceAdd, Int.reduceMul, Int.reduceSub, Int.reduceNeg, Int.reduceNe, Tryd.TS, Tryd.ev_g0, Tryd.ev1_g0, Tryd.ev_g1, Tryd.ev1_g1]
    have hx : m / 2 ^ (64 * i) % 18446744073709551616 < 18446744073709551616 := Nat.mod_lt _ (by omega)
    have hstep := mod_step m i
    have hma := u256_at m hi4
    generalize m / 2 ^ (64 * i) % 18446744073709551616 = x at *
    refine sloop Tryd.hT (α := Nat × List Nat × Nat) (fun z => ⟨71, [(18, .v (.d (.int .i64) (.n z.1))), (7, .v (.d (.int .i64) (.n i))), (8, .v (.d (.int .u64) (.n z.2.2))), (15, .v (.d (.int .i64) (.n i))), (2, .v (.ptr 0 [])), (3, .v (.ptr 1 [])), (4, .v (.ptr 2 [])), (5, .v (.ptr 3 [])), (6, .v (.ptr 4 []))],
      [(0, ⟨.arr 4 (.int .u64), .d (.arr 4 (.int .u64)) (u256 m)⟩), (1, ⟨.arr 4 (.int .u64), .d (.arr 4 (.int .u64)) (u256 n)⟩), (2, ⟨.arr 4 (.int .u64), .d (.arr 4 (.int .u64)) (.l [.n 0, .n 0, .n 0, .n 0])⟩), (3, ⟨.arr 4 (.int .u64), .d (.arr 4 (.int .u64)) (.l [.n 0, .n 0, .n 0, .n 0])⟩), (4, ⟨.arr 8 (.int .u64), .d (.arr 8 (.int .u64)) (nl z.2.1)⟩)], 5⟩)
      (fun z => z.1 ≤ 4 ∧ MulI z.2.1 ∧ z.2.2 < 18446744073709551616 ∧ (∀ k, i + 4 ≤ k → z.2.1.getD k 0 = 0) ∧ valL z.2.1 + z.2.2 * 18446744073709551616 ^ (i + z.1) = valL p0 + x * (18446744073709551616 ^ i * (n % 2 ^ (64 * z.1)))) (fun z => 4 - z.1) (0, p0, 0) ?_ ?_ ?_
    · refine sub_ren w0 [(0, 0), (1, 1), (2, 2), (3, 3), (4, 4)] rfl (by simp [keysLt]) rfl ?_ ?_
      · simp [renTm, Go.SE.look, renTV, renSV]
      · simp [renOb, Go.SE.look, renSV]
    · exact ⟨by omega, hI, by simp, hz, by simp [Nat.mod_one]⟩
    rintro ⟨j, p, c⟩ ⟨hj, hP, hc, hzp, hV⟩
    simp only at hj hP hc hzp hV
    simp -dsimp -implicitDefEqProofs (disch := omega) only [↓gpre, ↓bldS, ↓bld, ↓reduceIte, ↓gmore, gpost, gall, keepT, den, del, upd, dels, refs, hasTy, sArgs, aRefs, rvs, nodupB, memB, app, pTm, Ty.bytes, kbytes, Ty.zeroD, Ty.size, Ty.cmp, Ty.depth, Go.SE.look, reduceCtorEq, Nat.reduceAdd, Nat.reduceSub, Nat.reduceMul, Nat.reduceEqDiff, Nat.reduceLT, Nat.reduceLeDiff, Nat.reduceMod, Nat.reduceDiv, Nat.reducePow, Nat.reduceBEq, Int.reduceToNat, Int.reduceLE, Int.reduceLT, Int.reduceEq, Int.reduceAdd, Int.reduceMul, Int.reduceSub, Int.reduceNeg, Int.reduceNe, Tryd.TS, Tryd.ev_g0, Tryd.ev1_g0, Tryd.ev_g1, Tryd.ev1_g1]
    refine HIf_dec (fun hj4 => ?_) (fun hj4 => ?_)
    · have hj4' : j < 4 := by omega
      simp -dsimp -implicitDefEqProofs (disch := omega) only [↓gpre, ↓bldS, ↓bld, ↓reduceIte, ↓gmore, gpost, gall, keepT, den, del, upd, dels, refs, hasTy, sArgs, aRefs, rvs, nodupB, memB, app, pTm, Ty.bytes, kbytes, Ty.zeroD, Ty.size, Ty.cmp, Ty.depth, Go.SE.look, reduceCtorEq, Nat.reduceAdd, Nat.reduceSub, Nat.reduceMul, Nat.reduceEqDiff, Nat.reduceLT, Nat.reduceLeDiff, Nat.reduceMod, Nat.reduceDiv, Nat.reducePow, Nat.reduceBEq, Int.reduceToNat, Int.reduceLE, Int.reduceLT, Int.reduceEq, Int.reduceAdd, Int.reduceMul, Int.reduceSub, Int.reduceNeg, Int.reduceNe, Tryd.TS, Tryd.ev_g0, Tryd.ev1_g0, Tryd.ev_g1, Tryd.ev1_g1]
      refine sdraw Tryd.hT (by kernel_rfl) [] [0, 1, 2, 3, 4, 5, 6, 7, 8, 9, 10, 11] (by kernel_rfl) (by kernel_rfl) (by kernel_rfl) ?_; simp only [pickO, List.getElem?_toArray, List.getElem?_cons_zero, List.getElem?_cons_succ]
      simp -dsimp -implicitDefEqProofs (disch := omega) only [↓gpre, ↓bldS, ↓bld, ↓reduceIte, ↓gmore, gpost, gall, keepT, den, del, upd, dels, refs, hasTy, sArgs, aRefs, rvs, nodupB, memB, app, pTm, Ty.bytes, kbytes, Ty.zeroD, Ty.size, Ty.cmp, Ty.depth, Go.SE.look, reduceCtorEq, Nat.reduceAdd, Nat.reduceSub, Nat.reduceMul, Nat.reduceEqDiff, Nat.reduceLT, Nat.reduceLeDiff, Nat.reduceMod, Nat.reduceDiv, Nat.reducePow, Nat.reduceBEq, Int.reduceToNat, Int.reduceLE, Int.reduceLT, Int.reduceEq, Int.reduceAdd, Int.reduceMul, Int.reduceSub, Int.reduceNeg, Int.reduceNe, Tryd.TS, Tryd.ev_g0, Tryd.ev1_g0, Tryd.ev_g1, Tryd.ev1_g1, hma, u256_at n hj4', u256_list]
      repeat (refine And.intro (by omega) ?_)
      have hy : n / 2 ^ (64 * j) % 18446744073709551616 < 18446744073709551616 := Nat.mod_lt _ (by omega)
      have hstepn := mod_step n j
      generalize n / 2 ^ (64 * j) % 18446744073709551616 = y at *
      refine mul64 x y hx hy (fun l h hlh hl hh => ?_)
      have hpk := hP.lt (i + j)
      have hlen := hP.len
      simp -dsimp -implicitDefEqProofs (disch := omega) only [↓gpre, ↓bldS, ↓bld, ↓reduceIte, ↓gmore, gpost, gall, keepT, den, del, upd, dels, refs, hasTy, sArgs, aRefs, rvs, nodupB, memB, app, pTm, Ty.bytes, kbytes, Ty.zeroD, Ty.size, Ty.cmp, Ty.depth, Go.SE.look, reduceCtorEq, Nat.reduceAdd, Nat.reduceSub, Nat.reduceMul, Nat.reduceEqDiff, Nat.reduceLT, Nat.reduceLeDiff, Nat.reduceMod, Nat.reduceDiv, Nat.reducePow, Nat.reduceBEq, Int.reduceToNat, Int.reduceLE, Int.reduceLT, Int.reduceEq, Int.reduceAdd, Int.reduceMul, Int.reduceSub, Int.reduceNeg, Int.reduceNe, Tryd.TS, Tryd.ev_g0, Tryd.ev1_g0, Tryd.ev_g1, Tryd.ev1_g1, nl_at]
      repeat (refine And.intro (by omega) ?_)
      refine add64 (p.getD (i + j) 0) l 0 hpk hl (by omega) (fun s1 c1 e1 l1 m1 => ?_)
      simp -dsimp -implicitDefEqProofs (disch := omega) only [↓gpre, ↓bldS, ↓bld, ↓reduceIte, ↓gmore, gpost, gall, keepT, den, del, upd, dels, refs, hasTy, sArgs, aRefs, rvs, nodupB, memB, app, pTm, Ty.bytes, kbytes, Ty.zeroD, Ty.size, Ty.cmp, Ty.depth, Go.SE.look, reduceCtorEq, Nat.reduceAdd, Nat.reduceSub, Nat.reduceMul, Nat.reduceEqDiff, Nat.reduceLT, Nat.reduceLeDiff, Nat.reduceMod, Nat.reduceDiv, Nat.reducePow, Nat.reduceBEq, Int.reduceToNat, Int.reduceLE, Int.reduceLT, Int.reduceEq, Int.reduceAdd, Int.reduceMul, Int.reduceSub, Int.reduceNeg, Int.reduceNe, Tryd.TS, Tryd.ev_g0, Tryd.ev1_g0, Tryd.ev_g1, Tryd.ev1_g1]
      refine add64 s1 c 0 l1 hc (by omega) (fun s2 c2 e2 l2 m2 => ?_)
      have htot : s2 + 18446744073709551616 * (h + c1 + c2) = x * y + p.getD (i + j) 0 + c := by omega
      have hct := carry_lt hx hy hpk hc htot
      simp -dsimp -implicitDefEqProofs (disch := omega) only [↓gpre, ↓bldS, ↓bld, ↓reduceIte, ↓gmore, gpost, gall, keepT, den, del, upd, dels, refs, hasTy, sArgs, aRefs, rvs, nodupB, memB, app, pTm, Ty.bytes, kbytes, Ty.zeroD, Ty.size, Ty.cmp, Ty.depth, Go.SE.look, reduceCtorEq, Nat.reduceAdd, Nat.reduceSub, Nat.reduceMul, Nat.reduceEqDiff, Nat.reduceLT, Nat.reduceLeDiff, Nat.reduceMod, Nat.reduceDiv, Nat.reducePow, Nat.reduceBEq, Int.reduceToNat, Int.reduceLE, Int.reduceLT, Int.reduceEq, Int.reduceAdd, Int.reduceMul, Int.reduceSub, Int.reduceNeg, Int.reduceNe, Tryd.TS, Tryd.ev_g0, Tryd.ev1_g0, Tryd.ev_g1, Tryd.ev1_g1, show IntKind.u64.wrap (IntKind.u64.wrap ((h : Int) + (c1 : Int)) + (c2 : Int)) = ((h + c1 + c2 : Nat) : Int) by rw [IntWalk.u64_in ((h : Int) + c1) (by omega), IntWalk.u64_in _ (by omega)]; omega, nl_set, nl_len]
      repeat (refine And.intro (by omega) ?_)
      refine ⟨(j + 1, p.set (i + j) s2, h + c1 + c2), ⟨by omega, hP.set l2, hct, fun k hk => ?_, ?_⟩, by omega, ?_⟩
      · have := hzp k hk
        rw [List.getD_eq_getElem?_getD, List.getElem?_set, if_neg (by omega), ← List.getD_eq_getElem?_getD]
        exact this
      · have hset := valL_set p (i + j) s2 (by omega)
        have := mul_step (K := 18446744073709551616 ^ (i + j)) (E := 18446744073709551616 ^ i) (J := 18446744073709551616 ^ j) (Nat.pow_add _ _ _) hset htot hV
        rw [← Nat.pow_succ, ← hstepn] at this
        exact this
      · refine sub_ren w0 [(0, 0), (1, 1), (2, 2), (3, 3), (4, 4)] rfl (by simp [keysLt]) rfl ?_ ?_
        · simp [renTm, Go.SE.look, renTV, renSV]
        · simp [renOb, Go.SE.look, renSV]
    · have : j = 4 := by omega
      subst this
      have hlen := hP.len
      simp -dsimp -implicitDefEqProofs (disch := omega) only [↓gpre, ↓bldS, ↓bld, ↓reduceIte, ↓gmore, gpost, gall, keepT, den, del, upd, dels, refs, hasTy, sArgs, aRefs, rvs, nodupB, memB, app, pTm, Ty.bytes, kbytes, Ty.zeroD, Ty.size, Ty.cmp, Ty.depth, Go.SE.look, reduceCtorEq, Nat.reduceAdd, Nat.reduceSub, Nat.reduceMul, Nat.reduceEqDiff, Nat.reduceLT, Nat.reduceLeDiff, Nat.reduceMod, Nat.reduceDiv, Nat.reducePow, Nat.reduceBEq, Int.reduceToNat, Int.reduceLE, Int.reduceLT, Int.reduceEq, Int.reduceAdd, Int.reduceMul, Int.reduceSub, Int.reduceNeg, Int.reduceNe, Tryd.TS, Tryd.ev_g0, Tryd.ev1_g0, Tryd.ev_g1, Tryd.ev1_g1, nl_set, nl_len]
      repeat (refine And.intro (by omega) ?_)
      refine ⟨(i + 1, p.set (i + 4) c), ⟨by omega, hP.set hc, fun k hk => ?_, ?_⟩, by simp; omega, ?_⟩
      · rw [List.getD_eq_getElem?_getD, List.getElem?_set, if_neg (by simp at hk; omega), ← List.getD_eq_getElem?_getD]
        exact hzp k (by simp at hk; omega)
      · have hset := valL_set p (i + 4) c (by omega)
        rw [hzp (i + 4) (by omega), Nat.zero_mul, Nat.add_zero, hV, hv, Nat.mod_eq_of_lt (a := n) hn] at hset
        show valL (p.set (i + 4) c) = _
        rw [hset, hstep, Nat.add_mul]
        congr 1
        rw [← Nat.mul_assoc, Nat.mul_comm x]
      · refine sub_ren w0 [(0, 0), (1, 1), (2, 2), (3, 3), (4, 4)] rfl (by simp [keysLt]) rfl ?_ ?_
        · simp [renTm, Go.SE.look, renTV, renSV]
        · simp [renOb, Go.SE.look, renSV]
  · have : i = 4 := by omega
    subst this
    have hlen := hI.len
    rw [Nat.mod_eq_of_lt (a := m) hm] at hv
    have hlt := hI.lt
    match p0, hlen with
    | [a0, a1, a2, a3, a4, a5, a6, a7], _ =>
    have q0 := hlt 0
    have q1 := hlt 1
    have q2 := hlt 2
    have q3 := hlt 3
    have q4 := hlt 4
    have q5 := hlt 5
    have q6 := hlt 6
    have q7 := hlt 7
    simp only [List.getD_cons_zero, List.getD_cons_succ] at q0 q1 q2 q3 q4 q5 q6 q7
    simp only [valL] at hv
    simp only [nl, List.map_cons, List.map_nil]
    simp -dsimp -implicitDefEqProofs (disch := omega) only [↓gpre, ↓bldS, ↓bld, ↓reduceIte, ↓gmore, gpost, gall, keepT, den, del, upd, dels, refs, hasTy, sArgs, aRefs, rvs, nodupB, memB, app, pTm, Ty.bytes, kbytes, Ty.zeroD, Ty.size, Ty.cmp, Ty.depth, Go.SE.look, reduceCtorEq, Nat.reduceAdd, Nat.reduceSub, Nat.reduceMul, Nat.reduceEqDiff, Nat.reduceLT, Nat.reduceLeDiff, Nat.reduceMod, Nat.reduceDiv, Nat.reducePow, Nat.reduceBEq, Int.reduceToNat, Int.reduceLE, Int.reduceLT, Int.reduceEq, Int.reduceAdd, Int.reduceMul, Int.reduceSub, Int.reduceNeg, Int.reduceNe, Tryd.TS, Tryd.ev_g0, Tryd.ev1_g0, Tryd.ev_g1, Tryd.ev1_g1]
    refine sdraw Tryd.hT (by kernel_rfl) [2] [0, 1, 2] (by kernel_rfl) (by kernel_rfl) (by kernel_rfl) ?_; simp only [pickO, List.getElem?_toArray, List.getElem?_cons_zero, List.getElem?_cons_succ]
    simp -dsimp -implicitDefEqProofs (disch := omega) only [↓gpre, ↓bldS, ↓bld, ↓reduceIte, ↓gmore, gpost, gall, keepT, den, del, upd, dels, refs, hasTy, sArgs, aRefs, rvs, nodupB, memB, app, pTm, Ty.bytes, kbytes, Ty.zeroD, Ty.size, Ty.cmp, Ty.depth, Go.SE.look, reduceCtorEq, Nat.reduceAdd, Nat.reduceSub, Nat.reduceMul, Nat.reduceEqDiff, Nat.reduceLT, Nat.reduceLeDiff, Nat.reduceMod, Nat.reduceDiv, Nat.reducePow, Nat.reduceBEq, Int.reduceToNat, Int.reduceLE, Int.reduceLT, Int.reduceEq, Int.reduceAdd, Int.reduceMul, Int.reduceSub, Int.reduceNeg, Int.reduceNe, Tryd.TS, Tryd.ev_g0, Tryd.ev1_g0, Tryd.ev_g1, Tryd.ev1_g1, Nat.min_self]
    refine sdraw Tryd.hT (by kernel_rfl) [2] [0, 1, 2] (by kernel_rfl) (by kernel_rfl) (by kernel_rfl) ?_; simp only [pickO, List.getElem?_toArray, List.getElem?_cons_zero, List.getElem?_cons_succ]
    simp -dsimp -implicitDefEqProofs (disch := omega) only [↓gpre, ↓bldS, ↓bld, ↓reduceIte, ↓gmore, gpost, gall, keepT, den, del, upd, dels, refs, hasTy, sArgs, aRefs, rvs, nodupB, memB, app, pTm, Ty.bytes, kbytes, Ty.zeroD, Ty.size, Ty.cmp, Ty.depth, Go.SE.look, reduceCtorEq, Nat.reduceAdd, Nat.reduceSub, Nat.reduceMul, Nat.reduceEqDiff, Nat.reduceLT, Nat.reduceLeDiff, Nat.reduceMod, Nat.reduceDiv, Nat.reducePow, Nat.reduceBEq, Int.reduceToNat, Int.reduceLE, Int.reduceLT, Int.reduceEq, Int.reduceAdd, Int.reduceMul, Int.reduceSub, Int.reduceNeg, Int.reduceNe, Tryd.TS, Tryd.ev_g0, Tryd.ev1_g0, Tryd.ev_g1, Tryd.ev1_g1, Nat.min_self]
    rw [u256_mk (n := m * n % 115792089237316195423570985008687907853269984665640564039457584007913129639936) q0 q1 q2 q3 (by omega), u256_mk (n := m * n / 115792089237316195423570985008687907853269984665640564039457584007913129639936) q4 q5 q6 q7 (by omega)]
end Go.Proofs
/- Numbers of 256 bits: division. -/
namespace Go.Proofs
open Go.SE

theorem u256_at0 (n : Nat) : D.at (u256 n) 0 = .n ((n % 18446744073709551616 : Nat) : Int) := rfl
theorem u256_at3 (n : Nat) : D.at (u256 n) 3 = .n ((n / 6277101735386680763835789423207666416102355444464034512896 % 18446744073709551616 : Nat) : Int) := rfl
theorem u256_or0 {n k : Nat} (hn : n < 115792089237316195423570985008687907853269984665640564039457584007913129639936) (h : n % 2 = 0) (hk : k < 2) : D.l ((u256 n).list.set 0 (.n (bits .or .u64 ((n % 18446744073709551616 : Nat) : Int) (k : Int)))) = u256 (n + k) := by
  have hL : n % 18446744073709551616 < 18446744073709551616 := Nat.mod_lt _ (by omega)
  rw [u64_or_nat _ _ hL (by omega)]
  have hor : n % 18446744073709551616 ||| k = n % 18446744073709551616 + k := by
    have := Nat.two_pow_add_eq_or_of_lt (i := 1) (b := k) (by omega) (n % 18446744073709551616 / 2)
    rw [show n % 18446744073709551616 = 2 ^ 1 * (n % 18446744073709551616 / 2) by omega, ← this]
  rw [hor]
  obtain ⟨a, b, c, d, ha, hb, hc, hd, en, eu⟩ := u256_open n hn
  rw [eu]
  simp only [D.list, List.set_cons_zero]
  exact u256_mk (by omega) hb hc hd (by omega)

theorem u256_or1 {n : Nat} (hn : n < 115792089237316195423570985008687907853269984665640564039457584007913129639936) (h : n % 2 = 0) : D.l ((u256 n).list.set 0 (.n (bits .or .u64 ((n % 18446744073709551616 : Nat) : Int) 1))) = u256 (n + 1) := u256_or0 (k := 1) hn h (by omega)
theorem div_limb (n k : Nat) : n / 2 ^ (64 * k) = 18446744073709551616 * (n / 2 ^ (64 * (k + 1))) + n / 2 ^ (64 * k) % 18446744073709551616 := by
  have : n / 2 ^ (64 * (k + 1)) = n / 2 ^ (64 * k) / 18446744073709551616 := by rw [show 64 * (k + 1) = 64 * k + 64 by omega, Nat.pow_add, ← Nat.div_div_eq_div_mul]
  rw [this]
  exact (Nat.div_add_mod _ _).symm

theorem limb_less {v b k : Nat} (h : v / 2 ^ (64 * (k + 1)) = b / 2 ^ (64 * (k + 1))) (hl : v / 2 ^ (64 * k) % 18446744073709551616 < b / 2 ^ (64 * k) % 18446744073709551616) : v < b := by
  have h1 := div_limb v k
  have h2 := div_limb b k
  have : v / 2 ^ (64 * k) < b / 2 ^ (64 * k) := by omega
  rcases Nat.lt_or_ge v b with hh | hh
  · exact hh
  · have := Nat.div_le_div_right (c := 2 ^ (64 * k)) hh
    omega
theorem limb_eq {v b k : Nat} (h : v / 2 ^ (64 * (k + 1)) = b / 2 ^ (64 * (k + 1))) (hl : v / 2 ^ (64 * k) % 18446744073709551616 = b / 2 ^ (64 * k) % 18446744073709551616) : v / 2 ^ (64 * k) = b / 2 ^ (64 * k) := by
  have h1 := div_limb v k
  have h2 := div_limb b k
  omega

/-- Where a division stands: the bits from i on are done. -/
structure DivI (hi lo b i Q r : Nat) : Prop where
  le : i ≤ 256
  eq : hi * 2 ^ (256 - i) + lo / 2 ^ i = Q * b + r
  lt : r < b

theorem DivI.q_lt {hi lo b i Q r : Nat} (h : DivI hi lo b i Q r) (hhi : hi < b) (hlo : lo < 115792089237316195423570985008687907853269984665640564039457584007913129639936) : 2 ^ i * Q < 115792089237316195423570985008687907853269984665640564039457584007913129639936 := by
  obtain ⟨h1, h2, h3⟩ := h
  have e : (115792089237316195423570985008687907853269984665640564039457584007913129639936 : Nat) = 2 ^ i * 2 ^ (256 - i) := by rw [← Nat.pow_add, show i + (256 - i) = 256 by omega]
  have hl : lo / 2 ^ i < 2 ^ (256 - i) := Nat.div_lt_of_lt_mul (by rw [← e]; exact hlo)
  have h4 : (hi + 1) * 2 ^ (256 - i) ≤ b * 2 ^ (256 - i) := Nat.mul_le_mul_right _ hhi
  rw [Nat.add_mul, Nat.one_mul] at h4
  have h5 : Q * b < 2 ^ (256 - i) * b := by rw [Nat.mul_comm (2 ^ (256 - i))]; omega
  have h6 : Q < 2 ^ (256 - i) := Nat.lt_of_mul_lt_mul_right h5
  rw [e]
  exact Nat.mul_lt_mul_of_pos_left h6 (Nat.two_pow_pos _)

theorem DivI.eq' {hi lo b k Q r : Nat} (h : DivI hi lo b (k + 1) Q r) : hi * 2 ^ (256 - k) + lo / 2 ^ k = 2 * (Q * b) + (2 * r + lo / 2 ^ k % 2) := by
  obtain ⟨h1, h2, h3⟩ := h
  have e1 : hi * 2 ^ (256 - k) = 2 * (hi * 2 ^ (256 - (k + 1))) := by
    rw [show 256 - k = (256 - (k + 1)) + 1 by omega, Nat.pow_succ]
    rw [Nat.mul_comm 2, Nat.mul_assoc]
  have e2 : lo / 2 ^ (k + 1) = lo / 2 ^ k / 2 := by rw [Nat.pow_succ, Nat.div_div_eq_div_mul]
  rw [e2] at h2
  omega

theorem DivI.less {hi lo b k Q r : Nat} (h : DivI hi lo b (k + 1) Q r) (hl : 2 * r + lo / 2 ^ k % 2 < b) : DivI hi lo b k (2 * Q) (2 * r + lo / 2 ^ k % 2) := by
  have e := h.eq'
  refine ⟨by have := h.le; omega, ?_, hl⟩
  rw [e, Nat.mul_assoc]
theorem DivI.more {hi lo b k Q r : Nat} (h : DivI hi lo b (k + 1) Q r) (hl : b ≤ 2 * r + lo / 2 ^ k % 2) : DivI hi lo b k (2 * Q + 1) (2 * r + lo / 2 ^ k % 2 - b) := by
  have e := h.eq'
  have := h.lt
  refine ⟨by have := h.le; omega, ?_, by omega⟩
  rw [e, Nat.add_mul, Nat.one_mul, Nat.mul_assoc]
  omega
theorem DivI.done {hi lo b Q r : Nat} (h : DivI hi lo b 0 Q r) : Q = (hi * 115792089237316195423570985008687907853269984665640564039457584007913129639936 + lo) / b ∧ r = (hi * 115792089237316195423570985008687907853269984665640564039457584007913129639936 + lo) % b := by
  obtain ⟨_, h2, h3⟩ := h
  have e : hi * 115792089237316195423570985008687907853269984665640564039457584007913129639936 + lo = Q * b + r := by rw [← h2]; simp
  rw [e, Nat.mul_comm Q, Nat.mul_add_div (by omega), Nat.mul_add_mod, Nat.div_eq_of_lt h3, Nat.mod_eq_of_lt h3]
  exact ⟨rfl, rfl⟩

set_option maxHeartbeats 2000000 in
theorem wdivRef (hi lo b : Nat) (hhi : hi < b) (hlo : lo < 115792089237316195423570985008687907853269984665640564039457584007913129639936) (hb : b < 115792089237316195423570985008687907853269984665640564039457584007913129639936) : SCall Tryd.prog 108 [(.arr 4 (.int .u64), u256 hi), (.arr 4 (.int .u64), u256 lo), (.arr 4 (.int .u64), u256 b)]
    (fun rs => rs = [.d (.arr 4 (.int .u64)) (u256 ((hi * 115792089237316195423570985008687907853269984665640564039457584007913129639936 + lo) / b)), .d (.arr 4 (.int .u64)) (u256 ((hi * 115792089237316195423570985008687907853269984665640564039457584007913129639936 + lo) % b)), .d .bool (.b true)]) := by
  refine scall_intro (n := 61) (rl := [.cell 6 45, .cell 7 45, .tmp 8]) (us := [45, 45, 4]) Tryd.hT Tryd.func108 rfl rfl rfl rfl rfl (Nat.le_of_ble_eq_true rfl) ?_
  intro w0
  simp -dsimp -implicitDefEqProofs (disch := omega) only [↓gpre, ↓bldS, ↓bld, ↓reduceIte, ↓gmore, gpost, gall, keepT, den, del, upd, dels, refs, hasTy, sArgs, aRefs, rvs, nodupB, memB, app, pTm, Ty.bytes, kbytes, Ty.zeroD, Ty.size, Ty.cmp, Ty.depth, Go.SE.look, reduceCtorEq, Nat.reduceAdd, Nat.reduceSub, Nat.reduceMul, Nat.reduceEqDiff, Nat.reduceLT, Nat.reduceLeDiff, Nat.reduceMod, Nat.reduceDiv, Nat.reducePow, Nat.reduceBEq, Int.reduceToNat, Int.reduceLE, Int.reduceLT, Int.reduceEq, Int.reduceAdd, Int.reduceMul, Int.reduceSub, Int.reduceNeg, Int.reduceNe, Tryd.TS, Tryd.ev_g0, Tryd.ev1_g0, Tryd.ev_g1, Tryd.ev1_g1, rep4]
  refine SCall.mono (wcmpRef b hi (by omega) (by omega)) ?_; rintro rs rfl
  rw [if_neg (show ¬ b < hi by omega), if_pos hhi]
  simp -dsimp -implicitDefEqProofs (disch := omega) only [↓gpre, ↓bldS, ↓bld, ↓reduceIte, ↓gmore, gpost, gall, keepT, den, del, upd, dels, refs, hasTy, sArgs, aRefs, rvs, nodupB, memB, app, pTm, Ty.bytes, kbytes, Ty.zeroD, Ty.size, Ty.cmp, Ty.depth, Go.SE.look, reduceCtorEq, Nat.reduceAdd, Nat.reduceSub, Nat.reduceMul, Nat.reduceEqDiff, Nat.reduceLT, Nat.reduceLeDiff, Nat.reduceMod, Nat.reduceDiv, Nat.reducePow, Nat.reduceBEq, Int.reduceToNat, Int.reduceLE, Int.reduceLT, Int.reduceEq, Int.reduceAdd, Int.reduceMul, Int.reduceSub, Int.reduceNeg, Int.reduceNe, Tryd.TS, Tryd.ev_g0, Tryd.ev1_g0, Tryd.ev_g1, Tryd.ev1_g1, rep4]
  refine sloop Tryd.hT (α := Nat × Nat × Nat) (fun x => ⟨61, [(9, .v (.d (.int .i64) (.n ((x.1 : Int) - 1)))), (3, .v (.ptr 0 [])), (4, .v (.ptr 1 [])), (5, .v (.ptr 2 [])), (6, .v (.ptr 3 [])), (7, .v (.ptr 4 []))],
      [(0, ⟨.arr 4 (.int .u64), .d (.arr 4 (.int .u64)) (u256 hi)⟩), (1, ⟨.arr 4 (.int .u64), .d (.arr 4 (.int .u64)) (u256 lo)⟩), (2, ⟨.arr 4 (.int .u64), .d (.arr 4 (.int .u64)) (u256 b)⟩), (3, ⟨.arr 4 (.int .u64), .d (.arr 4 (.int .u64)) (u256 (2 ^ x.1 * x.2.1))⟩), (4, ⟨.arr 4 (.int .u64), .d (.arr 4 (.int .u64)) (u256 x.2.2)⟩)], 5⟩)
    (fun x => DivI hi lo b x.1 x.2.1 x.2.2) (fun x => x.1) (256, 0, hi) ?_ ⟨Nat.le_refl _, by simp only [Nat.sub_self, Nat.pow_zero, Nat.mul_one, Nat.zero_mul, Nat.zero_add]; rw [show (2 : Nat) ^ 256 = 115792089237316195423570985008687907853269984665640564039457584007913129639936 from rfl, Nat.div_eq_of_lt hlo]; rfl, hhi⟩ ?_
  · refine sub_ren w0 [(0, 0), (1, 1), (2, 2), (3, 3), (4, 4)] rfl (by simp [keysLt]) rfl ?_ ?_
    · simp [renTm, Go.SE.look, renTV, renSV]
    · simp [renOb, Go.SE.look, renSV, u256_zero]
  rintro ⟨i, Q, r⟩ hI
  simp only at hI
  have hr := hI.lt
  have hq := hI.q_lt hhi hlo
  have hile := hI.le
  simp -dsimp -implicitDefEqProofs (disch := omega) only [↓gpre, ↓bldS, ↓bld, ↓reduceIte, ↓gmore, gpost, gall, keepT, den, del, upd, dels, refs, hasTy, sArgs, aRefs, rvs, nodupB, memB, app, pTm, Ty.bytes, kbytes, Ty.zeroD, Ty.size, Ty.cmp, Ty.depth, Go.SE.look, reduceCtorEq, Nat.reduceAdd, Nat.reduceSub, Nat.reduceMul, Nat.reduceEqDiff, Nat.reduceLT, Nat.reduceLeDiff, Nat.reduceMod, Nat.reduceDiv, Nat.reducePow, Nat.reduceBEq, Int.reduceToNat, Int.reduceLE, Int.reduceLT, Int.reduceEq, Int.reduceAdd, Int.reduceMul, Int.reduceSub, Int.reduceNeg, Int.reduceNe, Tryd.TS, Tryd.ev_g0, Tryd.ev1_g0, Tryd.ev_g1, Tryd.ev1_g1]
  refine HIf_dec (fun h => ?_) (fun h => ?_)
  · obtain ⟨k, rfl⟩ : ∃ k, i = k + 1 := ⟨i - 1, by omega⟩
    rw [show (((k + 1 : Nat) : Int) - 1) = (k : Int) by omega]
    simp -dsimp -implicitDefEqProofs (disch := omega) only [↓gpre, ↓bldS, ↓bld, ↓reduceIte, ↓gmore, gpost, gall, keepT, den, del, upd, dels, refs, hasTy, sArgs, aRefs, rvs, nodupB, memB, app, pTm, Ty.bytes, kbytes, Ty.zeroD, Ty.size, Ty.cmp, Ty.depth, Go.SE.look, reduceCtorEq, Nat.reduceAdd, Nat.reduceSub, Nat.reduceMul, Nat.reduceEqDiff, Nat.reduceLT, Nat.reduceLeDiff, Nat.reduceMod, Nat.reduceDiv, Nat.reducePow, Nat.reduceBEq, Int.reduceToNat, Int.reduceLE, Int.reduceLT, Int.reduceEq, Int.reduceAdd, Int.reduceMul, Int.reduceSub, Int.reduceNeg, Int.reduceNe, Tryd.TS, Tryd.ev_g0, Tryd.ev1_g0, Tryd.ev_g1, Tryd.ev1_g1]
    refine SCall.mono (wbitRef r 255 (by omega)) ?_; rintro rs rfl
    simp -dsimp -implicitDefEqProofs (disch := omega) only [↓gpre, ↓bldS, ↓bld, ↓reduceIte, ↓gmore, gpost, gall, keepT, den, del, upd, dels, refs, hasTy, sArgs, aRefs, rvs, nodupB, memB, app, pTm, Ty.bytes, kbytes, Ty.zeroD, Ty.size, Ty.cmp, Ty.depth, Go.SE.look, reduceCtorEq, Nat.reduceAdd, Nat.reduceSub, Nat.reduceMul, Nat.reduceEqDiff, Nat.reduceLT, Nat.reduceLeDiff, Nat.reduceMod, Nat.reduceDiv, Nat.reducePow, Nat.reduceBEq, Int.reduceToNat, Int.reduceLE, Int.reduceLT, Int.reduceEq, Int.reduceAdd, Int.reduceMul, Int.reduceSub, Int.reduceNeg, Int.reduceNe, Tryd.TS, Tryd.ev_g0, Tryd.ev1_g0, Tryd.ev_g1, Tryd.ev1_g1]
    refine SCall.mono (waddRef r r (by omega) (by omega)) ?_; rintro rs rfl
    simp -dsimp -implicitDefEqProofs (disch := omega) only [↓gpre, ↓bldS, ↓bld, ↓reduceIte, ↓gmore, gpost, gall, keepT, den, del, upd, dels, refs, hasTy, sArgs, aRefs, rvs, nodupB, memB, app, pTm, Ty.bytes, kbytes, Ty.zeroD, Ty.size, Ty.cmp, Ty.depth, Go.SE.look, reduceCtorEq, Nat.reduceAdd, Nat.reduceSub, Nat.reduceMul, Nat.reduceEqDiff, Nat.reduceLT, Nat.reduceLeDiff, Nat.reduceMod, Nat.reduceDiv, Nat.reducePow, Nat.reduceBEq, Int.reduceToNat, Int.reduceLE, Int.reduceLT, Int.reduceEq, Int.reduceAdd, Int.reduceMul, Int.reduceSub, Int.reduceNeg, Int.reduceNe, Tryd.TS, Tryd.ev_g0, Tryd.ev1_g0, Tryd.ev_g1, Tryd.ev1_g1]
    refine SCall.mono (wbitRef lo k (by omega)) ?_; rintro rs rfl
    have hk4 : k / 64 < 4 := by omega
    have hclear : 2 ^ (k + 1) * Q / 2 ^ k % 2 = 0 := by
      rw [Nat.pow_succ, Nat.mul_assoc, Nat.mul_div_cancel_left _ (Nat.two_pow_pos k)]; omega
    have hset := u256_set hq (show k < 256 by omega) hclear
    have hqe : 2 ^ (k + 1) * Q + 2 ^ k = 2 ^ k * (2 * Q + 1) := by rw [Nat.mul_add, Nat.mul_one, Nat.pow_succ, Nat.mul_assoc]
    have hqe2 : 2 ^ (k + 1) * Q = 2 ^ k * (2 * Q) := by rw [Nat.pow_succ, Nat.mul_assoc]
    have hbit2 : lo / 2 ^ k % 2 < 2 := Nat.mod_lt _ (by omega)
    refine HIf_dec (a := ()) (b := ()) (fun hbit => ?_) (fun hbit => ?_)
    all_goals first
      | (simp -dsimp -implicitDefEqProofs (disch := omega) only [↓gpre, ↓bldS, ↓bld, ↓reduceIte, ↓gmore, gpost, gall, keepT, den, del, upd, dels, refs, hasTy, sArgs, aRefs, rvs, nodupB, memB, app, pTm, Ty.bytes, kbytes, Ty.zeroD, Ty.size, Ty.cmp, Ty.depth, Go.SE.look, reduceCtorEq, Nat.reduceAdd, Nat.reduceSub, Nat.reduceMul, Nat.reduceEqDiff, Nat.reduceLT, Nat.reduceLeDiff, Nat.reduceMod, Nat.reduceDiv, Nat.reducePow, Nat.reduceBEq, Int.reduceToNat, Int.reduceLE, Int.reduceLT, Int.reduceEq, Int.reduceAdd, Int.reduceMul, Int.reduceSub, Int.reduceNeg, Int.reduceNe, Tryd.TS, Tryd.ev_g0, Tryd.ev1_g0, Tryd.ev_g1, Tryd.ev1_g1, u256_at0, u256_list, u256_or1 (n := (r + r) % 115792089237316195423570985008687907853269984665640564039457584007913129639936) (Nat.mod_lt _ (by omega)) (by omega)]
         rw [show (r + r) % 115792089237316195423570985008687907853269984665640564039457584007913129639936 + 1 = (2 * r + lo / 2 ^ k % 2) % 115792089237316195423570985008687907853269984665640564039457584007913129639936 by omega])
      | (simp -dsimp -implicitDefEqProofs (disch := omega) only [↓gpre, ↓bldS, ↓bld, ↓reduceIte, ↓gmore, gpost, gall, keepT, den, del, upd, dels, refs, hasTy, sArgs, aRefs, rvs, nodupB, memB, app, pTm, Ty.bytes, kbytes, Ty.zeroD, Ty.size, Ty.cmp, Ty.depth, Go.SE.look, reduceCtorEq, Nat.reduceAdd, Nat.reduceSub, Nat.reduceMul, Nat.reduceEqDiff, Nat.reduceLT, Nat.reduceLeDiff, Nat.reduceMod, Nat.reduceDiv, Nat.reducePow, Nat.reduceBEq, Int.reduceToNat, Int.reduceLE, Int.reduceLT, Int.reduceEq, Int.reduceAdd, Int.reduceMul, Int.reduceSub, Int.reduceNeg, Int.reduceNe, Tryd.TS, Tryd.ev_g0, Tryd.ev1_g0, Tryd.ev_g1, Tryd.ev1_g1]
         rw [show (r + r) % 115792089237316195423570985008687907853269984665640564039457584007913129639936 = (2 * r + lo / 2 ^ k % 2) % 115792089237316195423570985008687907853269984665640564039457584007913129639936 by omega])
    all_goals refine HIf_dec (fun hov => ?_) (fun hov => ?_)
    · have hge : b ≤ 2 * r + lo / 2 ^ k % 2 := by omega
      simp -dsimp -implicitDefEqProofs (disch := omega) only [↓gpre, ↓bldS, ↓bld, ↓reduceIte, ↓gmore, gpost, gall, keepT, den, del, upd, dels, refs, hasTy, sArgs, aRefs, rvs, nodupB, memB, app, pTm, Ty.bytes, kbytes, Ty.zeroD, Ty.size, Ty.cmp, Ty.depth, Go.SE.look, reduceCtorEq, Nat.reduceAdd, Nat.reduceSub, Nat.reduceMul, Nat.reduceEqDiff, Nat.reduceLT, Nat.reduceLeDiff, Nat.reduceMod, Nat.reduceDiv, Nat.reducePow, Nat.reduceBEq, Int.reduceToNat, Int.reduceLE, Int.reduceLT, Int.reduceEq, Int.reduceAdd, Int.reduceMul, Int.reduceSub, Int.reduceNeg, Int.reduceNe, Tryd.TS, Tryd.ev_g0, Tryd.ev1_g0, Tryd.ev_g1, Tryd.ev1_g1]
      refine SCall.mono (wsubRef ((2 * r + lo / 2 ^ k % 2) % 115792089237316195423570985008687907853269984665640564039457584007913129639936) b (Nat.mod_lt _ (by omega)) hb) ?_; rintro rs rfl
      rw [show ((2 * r + lo / 2 ^ k % 2) % 115792089237316195423570985008687907853269984665640564039457584007913129639936 + 115792089237316195423570985008687907853269984665640564039457584007913129639936 - b) % 115792089237316195423570985008687907853269984665640564039457584007913129639936 = 2 * r + lo / 2 ^ k % 2 - b by omega]
      simp -dsimp -implicitDefEqProofs (disch := omega) only [↓gpre, ↓bldS, ↓bld, ↓reduceIte, ↓gmore, gpost, gall, keepT, den, del, upd, dels, refs, hasTy, sArgs, aRefs, rvs, nodupB, memB, app, pTm, Ty.bytes, kbytes, Ty.zeroD, Ty.size, Ty.cmp, Ty.depth, Go.SE.look, reduceCtorEq, Nat.reduceAdd, Nat.reduceSub, Nat.reduceMul, Nat.reduceEqDiff, Nat.reduceLT, Nat.reduceLeDiff, Nat.reduceMod, Nat.reduceDiv, Nat.reducePow, Nat.reduceBEq, Int.reduceToNat, Int.reduceLE, Int.reduceLT, Int.reduceEq, Int.reduceAdd, Int.reduceMul, Int.reduceSub, Int.reduceNeg, Int.reduceNe, Tryd.TS, Tryd.ev_g0, Tryd.ev1_g0, Tryd.ev_g1, Tryd.ev1_g1]
      refine sdraw Tryd.hT (by kernel_rfl) [9] [0, 1, 2, 3, 4, 5, 6, 7, 8, 9] (by kernel_rfl) (by kernel_rfl) (by kernel_rfl) ?_; simp only [pickO, List.getElem?_toArray, List.getElem?_cons_zero, List.getElem?_cons_succ]
      simp -dsimp -implicitDefEqProofs (disch := omega) only [↓gpre, ↓bldS, ↓bld, ↓reduceIte, ↓gmore, gpost, gall, keepT, den, del, upd, dels, refs, hasTy, sArgs, aRefs, rvs, nodupB, memB, app, pTm, Ty.bytes, kbytes, Ty.zeroD, Ty.size, Ty.cmp, Ty.depth, Go.SE.look, reduceCtorEq, Nat.reduceAdd, Nat.reduceSub, Nat.reduceMul, Nat.reduceEqDiff, Nat.reduceLT, Nat.reduceLeDiff, Nat.reduceMod, Nat.reduceDiv, Nat.reducePow, Nat.reduceBEq, Int.reduceToNat, Int.reduceLE, Int.reduceLT, Int.reduceEq, Int.reduceAdd, Int.reduceMul, Int.reduceSub, Int.reduceNeg, Int.reduceNe, Tryd.TS, Tryd.ev_g0, Tryd.ev1_g0, Tryd.ev_g1, Tryd.ev1_g1, td64, tm64, u256_at _ hk4, u256_list, hset]
      repeat (refine And.intro (by omega) ?_)
      refine ⟨(k, 2 * Q + 1, 2 * r + lo / 2 ^ k % 2 - b), hI.more hge, Nat.lt_succ_self k, ?_⟩
      refine sub_ren w0 [(0, 0), (1, 1), (2, 2), (3, 3), (4, 4)] rfl (by simp [keysLt]) rfl ?_ ?_
      · simp [renTm, Go.SE.look, renTV, renSV]
      · simp [renOb, Go.SE.look, renSV, hqe]
    · simp -dsimp -implicitDefEqProofs (disch := omega) only [↓gpre, ↓bldS, ↓bld, ↓reduceIte, ↓gmore, gpost, gall, keepT, den, del, upd, dels, refs, hasTy, sArgs, aRefs, rvs, nodupB, memB, app, pTm, Ty.bytes, kbytes, Ty.zeroD, Ty.size, Ty.cmp, Ty.depth, Go.SE.look, reduceCtorEq, Nat.reduceAdd, Nat.reduceSub, Nat.reduceMul, Nat.reduceEqDiff, Nat.reduceLT, Nat.reduceLeDiff, Nat.reduceMod, Nat.reduceDiv, Nat.reducePow, Nat.reduceBEq, Int.reduceToNat, Int.reduceLE, Int.reduceLT, Int.reduceEq, Int.reduceAdd, Int.reduceMul, Int.reduceSub, Int.reduceNeg, Int.reduceNe, Tryd.TS, Tryd.ev_g0, Tryd.ev1_g0, Tryd.ev_g1, Tryd.ev1_g1]
      refine SCall.mono (wcmpRef ((2 * r + lo / 2 ^ k % 2) % 115792089237316195423570985008687907853269984665640564039457584007913129639936) b (Nat.mod_lt _ (by omega)) hb) ?_; rintro rs rfl
      simp -dsimp -implicitDefEqProofs (disch := omega) only [↓gpre, ↓bldS, ↓bld, ↓reduceIte, ↓gmore, gpost, gall, keepT, den, del, upd, dels, refs, hasTy, sArgs, aRefs, rvs, nodupB, memB, app, pTm, Ty.bytes, kbytes, Ty.zeroD, Ty.size, Ty.cmp, Ty.depth, Go.SE.look, reduceCtorEq, Nat.reduceAdd, Nat.reduceSub, Nat.reduceMul, Nat.reduceEqDiff, Nat.reduceLT, Nat.reduceLeDiff, Nat.reduceMod, Nat.reduceDiv, Nat.reducePow, Nat.reduceBEq, Int.reduceToNat, Int.reduceLE, Int.reduceLT, Int.reduceEq, Int.reduceAdd, Int.reduceMul, Int.reduceSub, Int.reduceNeg, Int.reduceNe, Tryd.TS, Tryd.ev_g0, Tryd.ev1_g0, Tryd.ev_g1, Tryd.ev1_g1]
      have hT : (2 * r + lo / 2 ^ k % 2) % 115792089237316195423570985008687907853269984665640564039457584007913129639936 = 2 * r + lo / 2 ^ k % 2 := by omega
      refine HIf_dec (fun hc => ?_) (fun hc => ?_)
      · have hge : b ≤ 2 * r + lo / 2 ^ k % 2 := by
          rw [hT] at hc
          split at hc <;> omega
        simp -dsimp -implicitDefEqProofs (disch := omega) only [↓gpre, ↓bldS, ↓bld, ↓reduceIte, ↓gmore, gpost, gall, keepT, den, del, upd, dels, refs, hasTy, sArgs, aRefs, rvs, nodupB, memB, app, pTm, Ty.bytes, kbytes, Ty.zeroD, Ty.size, Ty.cmp, Ty.depth, Go.SE.look, reduceCtorEq, Nat.reduceAdd, Nat.reduceSub, Nat.reduceMul, Nat.reduceEqDiff, Nat.reduceLT, Nat.reduceLeDiff, Nat.reduceMod, Nat.reduceDiv, Nat.reducePow, Nat.reduceBEq, Int.reduceToNat, Int.reduceLE, Int.reduceLT, Int.reduceEq, Int.reduceAdd, Int.reduceMul, Int.reduceSub, Int.reduceNeg, Int.reduceNe, Tryd.TS, Tryd.ev_g0, Tryd.ev1_g0, Tryd.ev_g1, Tryd.ev1_g1]
        refine SCall.mono (wsubRef ((2 * r + lo / 2 ^ k % 2) % 115792089237316195423570985008687907853269984665640564039457584007913129639936) b (Nat.mod_lt _ (by omega)) hb) ?_; rintro rs rfl
        rw [show ((2 * r + lo / 2 ^ k % 2) % 115792089237316195423570985008687907853269984665640564039457584007913129639936 + 115792089237316195423570985008687907853269984665640564039457584007913129639936 - b) % 115792089237316195423570985008687907853269984665640564039457584007913129639936 = 2 * r + lo / 2 ^ k % 2 - b by omega]
        simp -dsimp -implicitDefEqProofs (disch := omega) only [↓gpre, ↓bldS, ↓bld, ↓reduceIte, ↓gmore, gpost, gall, keepT, den, del, upd, dels, refs, hasTy, sArgs, aRefs, rvs, nodupB, memB, app, pTm, Ty.bytes, kbytes, Ty.zeroD, Ty.size, Ty.cmp, Ty.depth, Go.SE.look, reduceCtorEq, Nat.reduceAdd, Nat.reduceSub, Nat.reduceMul, Nat.reduceEqDiff, Nat.reduceLT, Nat.reduceLeDiff, Nat.reduceMod, Nat.reduceDiv, Nat.reducePow, Nat.reduceBEq, Int.reduceToNat, Int.reduceLE, Int.reduceLT, Int.reduceEq, Int.reduceAdd, Int.reduceMul, Int.reduceSub, Int.reduceNeg, Int.reduceNe, Tryd.TS, Tryd.ev_g0, Tryd.ev1_g0, Tryd.ev_g1, Tryd.ev1_g1]
        refine sdraw Tryd.hT (by kernel_rfl) [9] [0, 1, 2, 3, 4, 5, 6, 7, 8, 9] (by kernel_rfl) (by kernel_rfl) (by kernel_rfl) ?_; simp only [pickO, List.getElem?_toArray, List.getElem?_cons_zero, List.getElem?_cons_succ]
        simp -dsimp -implicitDefEqProofs (disch := omega) only [↓gpre, ↓bldS, ↓bld, ↓reduceIte, ↓gmore, gpost, gall, keepT, den, del, upd, dels, refs, hasTy, sArgs, aRefs, rvs, nodupB, memB, app, pTm, Ty.bytes, kbytes, Ty.zeroD, Ty.size, Ty.cmp, Ty.depth, Go.SE.look, reduceCtorEq, Nat.reduceAdd, Nat.reduceSub, Nat.reduceMul, Nat.reduceEqDiff, Nat.reduceLT, Nat.reduceLeDiff, Nat.reduceMod, Nat.reduceDiv, Nat.reducePow, Nat.reduceBEq, Int.reduceToNat, Int.reduceLE, Int.reduceLT, Int.reduceEq, Int.reduceAdd, Int.reduceMul, Int.reduceSub, Int.reduceNeg, Int.reduceNe, Tryd.TS, Tryd.ev_g0, Tryd.ev1_g0, Tryd.ev_g1, Tryd.ev1_g1, td64, tm64, u256_at _ hk4, u256_list, hset]
        repeat (refine And.intro (by omega) ?_)
        refine ⟨(k, 2 * Q + 1, 2 * r + lo / 2 ^ k % 2 - b), hI.more hge, Nat.lt_succ_self k, ?_⟩
        refine sub_ren w0 [(0, 0), (1, 1), (2, 2), (3, 3), (4, 4)] rfl (by simp [keysLt]) rfl ?_ ?_
        · simp [renTm, Go.SE.look, renTV, renSV]
        · simp [renOb, Go.SE.look, renSV, hqe]
      · have hlt : 2 * r + lo / 2 ^ k % 2 < b := by
          rw [hT] at hc
          split at hc
          · assumption
          · split at hc <;> omega
        simp -dsimp -implicitDefEqProofs (disch := omega) only [↓gpre, ↓bldS, ↓bld, ↓reduceIte, ↓gmore, gpost, gall, keepT, den, del, upd, dels, refs, hasTy, sArgs, aRefs, rvs, nodupB, memB, app, pTm, Ty.bytes, kbytes, Ty.zeroD, Ty.size, Ty.cmp, Ty.depth, Go.SE.look, reduceCtorEq, Nat.reduceAdd, Nat.reduceSub, Nat.reduceMul, Nat.reduceEqDiff, Nat.reduceLT, Nat.reduceLeDiff, Nat.reduceMod, Nat.reduceDiv, Nat.reducePow, Nat.reduceBEq, Int.reduceToNat, Int.reduceLE, Int.reduceLT, Int.reduceEq, Int.reduceAdd, Int.reduceMul, Int.reduceSub, Int.reduceNeg, Int.reduceNe, Tryd.TS, Tryd.ev_g0, Tryd.ev1_g0, Tryd.ev_g1, Tryd.ev1_g1]
        refine ⟨(k, 2 * Q, 2 * r + lo / 2 ^ k % 2), hI.less hlt, Nat.lt_succ_self k, ?_⟩
        refine sub_ren w0 [(0, 0), (1, 1), (2, 2), (3, 3), (4, 4)] rfl (by simp [keysLt]) rfl ?_ ?_
        · simp [renTm, Go.SE.look, renTV, renSV]
        · simp [renOb, Go.SE.look, renSV, hqe2, hT]
    · have hge : b ≤ 2 * r + lo / 2 ^ k % 2 := by omega
      simp -dsimp -implicitDefEqProofs (disch := omega) only [↓gpre, ↓bldS, ↓bld, ↓reduceIte, ↓gmore, gpost, gall, keepT, den, del, upd, dels, refs, hasTy, sArgs, aRefs, rvs, nodupB, memB, app, pTm, Ty.bytes, kbytes, Ty.zeroD, Ty.size, Ty.cmp, Ty.depth, Go.SE.look, reduceCtorEq, Nat.reduceAdd, Nat.reduceSub, Nat.reduceMul, Nat.reduceEqDiff, Nat.reduceLT, Nat.reduceLeDiff, Nat.reduceMod, Nat.reduceDiv, Nat.reducePow, Nat.reduceBEq, Int.reduceToNat, Int.reduceLE, Int.reduceLT, Int.reduceEq, Int.reduceAdd, Int.reduceMul, Int.reduceSub, Int.reduceNeg, Int.reduceNe, Tryd.TS, Tryd.ev_g0, Tryd.ev1_g0, Tryd.ev_g1, Tryd.ev1_g1]
      refine SCall.mono (wsubRef ((2 * r + lo / 2 ^ k % 2) % 115792089237316195423570985008687907853269984665640564039457584007913129639936) b (Nat.mod_lt _ (by omega)) hb) ?_; rintro rs rfl
      rw [show ((2 * r + lo / 2 ^ k % 2) % 115792089237316195423570985008687907853269984665640564039457584007913129639936 + 115792089237316195423570985008687907853269984665640564039457584007913129639936 - b) % 115792089237316195423570985008687907853269984665640564039457584007913129639936 = 2 * r + lo / 2 ^ k % 2 - b by omega]
      simp -dsimp -implicitDefEqProofs (disch := omega) only [↓gpre, ↓bldS, ↓bld, ↓reduceIte, ↓gmore, gpost, gall, keepT, den, del, upd, dels, refs, hasTy, sArgs, aRefs, rvs, nodupB, memB, app, pTm, Ty.bytes, kbytes, Ty.zeroD, Ty.size, Ty.cmp, Ty.depth, Go.SE.look, reduceCtorEq, Nat.reduceAdd, Nat.reduceSub, Nat.reduceMul, Nat.reduceEqDiff, Nat.reduceLT, Nat.reduceLeDiff, Nat.reduceMod, Nat.reduceDiv, Nat.reducePow, Nat.reduceBEq, Int.reduceToNat, Int.reduceLE, Int.reduceLT, Int.reduceEq, Int.reduceAdd, Int.reduceMul, Int.reduceSub, Int.reduceNeg, Int.reduceNe, Tryd.TS, Tryd.ev_g0, Tryd.ev1_g0, Tryd.ev_g1, Tryd.ev1_g1]
      refine sdraw Tryd.hT (by kernel_rfl) [9] [0, 1, 2, 3, 4, 5, 6, 7, 8, 9] (by kernel_rfl) (by kernel_rfl) (by kernel_rfl) ?_; simp only [pickO, List.getElem?_toArray, List.getElem?_cons_zero, List.getElem?_cons_succ]
      simp -dsimp -implicitDefEqProofs (disch := omega) only [↓gpre, ↓bldS, ↓bld, ↓reduceIte, ↓gmore, gpost, gall, keepT, den, del, upd, dels, refs, hasTy, sArgs, aRefs, rvs, nodupB, memB, app, pTm, Ty.bytes, kbytes, Ty.zeroD, Ty.size, Ty.cmp, Ty.depth, Go.SE.look, reduceCtorEq, Nat.reduceAdd, Nat.reduceSub, Nat.reduceMul, Nat.reduceEqDiff, Nat.reduceLT, Nat.reduceLeDiff, Nat.reduceMod, Nat.reduceDiv, Nat.reducePow, Nat.reduceBEq, Int.reduceToNat, Int.reduceLE, Int.reduceLT, Int.reduceEq, Int.reduceAdd, Int.reduceMul, Int.reduceSub, Int.reduceNeg, Int.reduceNe, Tryd.TS, Tryd.ev_g0, Tryd.ev1_g0, Tryd.ev_g1, Tryd.ev1_g1, td64, tm64, u256_at _ hk4, u256_list, hset]
      repeat (refine And.intro (by omega) ?_)
      refine ⟨(k, 2 * Q + 1, 2 * r + lo / 2 ^ k % 2 - b), hI.more hge, Nat.lt_succ_self k, ?_⟩
      refine sub_ren w0 [(0, 0), (1, 1), (2, 2), (3, 3), (4, 4)] rfl (by simp [keysLt]) rfl ?_ ?_
      · simp [renTm, Go.SE.look, renTV, renSV]
      · simp [renOb, Go.SE.look, renSV, hqe]
    · simp -dsimp -implicitDefEqProofs (disch := omega) only [↓gpre, ↓bldS, ↓bld, ↓reduceIte, ↓gmore, gpost, gall, keepT, den, del, upd, dels, refs, hasTy, sArgs, aRefs, rvs, nodupB, memB, app, pTm, Ty.bytes, kbytes, Ty.zeroD, Ty.size, Ty.cmp, Ty.depth, Go.SE.look, reduceCtorEq, Nat.reduceAdd, Nat.reduceSub, Nat.reduceMul, Nat.reduceEqDiff, Nat.reduceLT, Nat.reduceLeDiff, Nat.reduceMod, Nat.reduceDiv, Nat.reducePow, Nat.reduceBEq, Int.reduceToNat, Int.reduceLE, Int.reduceLT, Int.reduceEq, Int.reduceAdd, Int.reduceMul, Int.reduceSub, Int.reduceNeg, Int.reduceNe, Tryd.TS, Tryd.ev_g0, Tryd.ev1_g0, Tryd.ev_g1, Tryd.ev1_g1]
      refine SCall.mono (wcmpRef ((2 * r + lo / 2 ^ k % 2) % 115792089237316195423570985008687907853269984665640564039457584007913129639936) b (Nat.mod_lt _ (by omega)) hb) ?_; rintro rs rfl
      simp -dsimp -implicitDefEqProofs (disch := omega) only [↓gpre, ↓bldS, ↓bld, ↓reduceIte, ↓gmore, gpost, gall, keepT, den, del, upd, dels, refs, hasTy, sArgs, aRefs, rvs, nodupB, memB, app, pTm, Ty.bytes, kbytes, Ty.zeroD, Ty.size, Ty.cmp, Ty.depth, Go.SE.look, reduceCtorEq, Nat.reduceAdd, Nat.reduceSub, Nat.reduceMul, Nat.reduceEqDiff, Nat.reduceLT, Nat.reduceLeDiff, Nat.reduceMod, Nat.reduceDiv, Nat.reducePow, Nat.reduceBEq, Int.reduceToNat, Int.reduceLE, Int.reduceLT, Int.reduceEq, Int.reduceAdd, Int.reduceMul, Int.reduceSub, Int.reduceNeg, Int.reduceNe, Tryd.TS, Tryd.ev_g0, Tryd.ev1_g0, Tryd.ev_g1, Tryd.ev1_g1]
      have hT : (2 * r + lo / 2 ^ k % 2) % 115792089237316195423570985008687907853269984665640564039457584007913129639936 = 2 * r + lo / 2 ^ k % 2 := by omega
      refine HIf_dec (fun hc => ?_) (fun hc => ?_)
      · have hge : b ≤ 2 * r + lo / 2 ^ k % 2 := by
          rw [hT] at hc
          split at hc <;> omega
        simp -dsimp -implicitDefEqProofs (disch := omega) only [↓gpre, ↓bldS, ↓bld, ↓reduceIte, ↓gmore, gpost, gall, keepT, den, del, upd, dels, refs, hasTy, sArgs, aRefs, rvs, nodupB, memB, app, pTm, Ty.bytes, kbytes, Ty.zeroD, Ty.size, Ty.cmp, Ty.depth, Go.SE.look, reduceCtorEq, Nat.reduceAdd, Nat.reduceSub, Nat.reduceMul, Nat.reduceEqDiff, Nat.reduceLT, Nat.reduceLeDiff, Nat.reduceMod, Nat.reduceDiv, Nat.reducePow, Nat.reduceBEq, Int.reduceToNat, Int.reduceLE, Int.reduceLT, Int.reduceEq, Int.reduceAdd, Int.reduceMul, Int.reduceSub, Int.reduceNeg, Int.reduceNe, Tryd.TS, Tryd.ev_g0, Tryd.ev1_g0, Tryd.ev_g1, Tryd.ev1_g1]
        refine SCall.mono (wsubRef ((2 * r + lo / 2 ^ k % 2) % 115792089237316195423570985008687907853269984665640564039457584007913129639936) b (Nat.mod_lt _ (by omega)) hb) ?_; rintro rs rfl
        rw [show ((2 * r + lo / 2 ^ k % 2) % 115792089237316195423570985008687907853269984665640564039457584007913129639936 + 115792089237316195423570985008687907853269984665640564039457584007913129639936 - b) % 115792089237316195423570985008687907853269984665640564039457584007913129639936 = 2 * r + lo / 2 ^ k % 2 - b by omega]
        simp -dsimp -implicitDefEqProofs (disch := omega) only [↓gpre, ↓bldS, ↓bld, ↓reduceIte, ↓gmore, gpost, gall, keepT, den, del, upd, dels, refs, hasTy, sArgs, aRefs, rvs, nodupB, memB, app, pTm, Ty.bytes, kbytes, Ty.zeroD, Ty.size, Ty.cmp, Ty.depth, Go.SE.look, reduceCtorEq, Nat.reduceAdd, Nat.reduceSub, Nat.reduceMul, Nat.reduceEqDiff, Nat.reduceLT, Nat.reduceLeDiff, Nat.reduceMod, Nat.reduceDiv, Nat.reducePow, Nat.reduceBEq, Int.reduceToNat, Int.reduceLE, Int.reduceLT, Int.reduceEq, Int.reduceAdd, Int.reduceMul, Int.reduceSub, Int.reduceNeg, Int.reduceNe, Tryd.TS, Tryd.ev_g0, Tryd.ev1_g0, Tryd.ev_g1, Tryd.ev1_g1]
        refine sdraw Tryd.hT (by kernel_rfl) [9] [0, 1, 2, 3, 4, 5, 6, 7, 8, 9] (by kernel_rfl) (by kernel_rfl) (by kernel_rfl) ?_; simp only [pickO, List.getElem?_toArray, List.getElem?_cons_zero, List.getElem?_cons_succ]
        simp -dsimp -implicitDefEqProofs (disch := omega) only [↓gpre, ↓bldS, ↓bld, ↓reduceIte, ↓gmore, gpost, gall, keepT, den, del, upd, dels, refs, hasTy, sArgs, aRefs, rvs, nodupB, memB, app, pTm, Ty.bytes, kbytes, Ty.zeroD, Ty.size, Ty.cmp, Ty.depth, Go.SE.look, reduceCtorEq, Nat.reduceAdd, Nat.reduceSub, Nat.reduceMul, Nat.reduceEqDiff, Nat.reduceLT, Nat.reduceLeDiff, Nat.reduceMod, Nat.reduceDiv, Nat.reducePow, Nat.reduceBEq, Int.reduceToNat, Int.reduceLE, Int.reduceLT, Int.reduceEq, Int.reduceAdd, Int.reduceMul, Int.reduceSub, Int.reduceNeg, Int.reduceNe, Tryd.TS, Tryd.ev_g0, Tryd.ev1_g0, Tryd.ev_g1, Tryd.ev1_g1, td64, tm64, u256_at _ hk4, u256_list, hset]
        repeat (refine And.intro (by omega) ?_)
        refine ⟨(k, 2 * Q + 1, 2 * r + lo / 2 ^ k % 2 - b), hI.more hge, Nat.lt_succ_self k, ?_⟩
        refine sub_ren w0 [(0, 0), (1, 1), (2, 2), (3, 3), (4, 4)] rfl (by simp [keysLt]) rfl ?_ ?_
        · simp [renTm, Go.SE.look, renTV, renSV]
        · simp [renOb, Go.SE.look, renSV, hqe]
      · have hlt : 2 * r + lo / 2 ^ k % 2 < b := by
          rw [hT] at hc
          split at hc
          · assumption
          · split at hc <;> omega
        simp -dsimp -implicitDefEqProofs (disch := omega) only [↓gpre, ↓bldS, ↓bld, ↓reduceIte, ↓gmore, gpost, gall, keepT, den, del, upd, dels, refs, hasTy, sArgs, aRefs, rvs, nodupB, memB, app, pTm, Ty.bytes, kbytes, Ty.zeroD, Ty.size, Ty.cmp, Ty.depth, Go.SE.look, reduceCtorEq, Nat.reduceAdd, Nat.reduceSub, Nat.reduceMul, Nat.reduceEqDiff, Nat.reduceLT, Nat.reduceLeDiff, Nat.reduceMod, Nat.reduceDiv, Nat.reducePow, Nat.reduceBEq, Int.reduceToNat, Int.reduceLE, Int.reduceLT, Int.reduceEq, Int.reduceAdd, Int.reduceMul, Int.reduceSub, Int.reduceNeg, Int.reduceNe, Tryd.TS, Tryd.ev_g0, Tryd.ev1_g0, Tryd.ev_g1, Tryd.ev1_g1]
        refine ⟨(k, 2 * Q, 2 * r + lo / 2 ^ k % 2), hI.less hlt, Nat.lt_succ_self k, ?_⟩
        refine sub_ren w0 [(0, 0), (1, 1), (2, 2), (3, 3), (4, 4)] rfl (by simp [keysLt]) rfl ?_ ?_
        · simp [renTm, Go.SE.look, renTV, renSV]
        · simp [renOb, Go.SE.look, renSV, hqe2, hT]
  · have : i = 0 := by omega
    subst this
    obtain ⟨rfl, rfl⟩ := hI.done
    simp -dsimp -implicitDefEqProofs (disch := omega) only [↓gpre, ↓bldS, ↓bld, ↓reduceIte, ↓gmore, gpost, gall, keepT, den, del, upd, dels, refs, hasTy, sArgs, aRefs, rvs, nodupB, memB, app, pTm, Ty.bytes, kbytes, Ty.zeroD, Ty.size, Ty.cmp, Ty.depth, Go.SE.look, reduceCtorEq, Nat.reduceAdd, Nat.reduceSub, Nat.reduceMul, Nat.reduceEqDiff, Nat.reduceLT, Nat.reduceLeDiff, Nat.reduceMod, Nat.reduceDiv, Nat.reducePow, Nat.reduceBEq, Int.reduceToNat, Int.reduceLE, Int.reduceLT, Int.reduceEq, Int.reduceAdd, Int.reduceMul, Int.reduceSub, Int.reduceNeg, Int.reduceNe, Tryd.TS, Tryd.ev_g0, Tryd.ev1_g0, Tryd.ev_g1, Tryd.ev1_g1]
    refine sdrawT Tryd.hT (by kernel_rfl) (.alt 0 (.alt 1 (.alt 2 (.alt 3 (.alt 4 .nil .nil) .nil) .nil) (.alt 2 (.alt 1 (.alt 3 (.alt 4 .nil .nil) .nil) .nil) .nil)) (.alt 1 (.alt 0 (.alt 2 (.alt 3 (.alt 4 .nil .nil) .nil) .nil) .nil) .nil)) (by kernel_rfl) ?_; simp only [tr_alt, tr_nil, tr_nil', pickO, List.getElem?_toArray, List.getElem?_cons_zero, List.getElem?_cons_succ]
    simp -dsimp -implicitDefEqProofs (disch := omega) only [↓gpre, ↓bldS, ↓bld, ↓reduceIte, ↓gmore, gpost, gall, keepT, den, del, upd, dels, refs, hasTy, sArgs, aRefs, rvs, nodupB, memB, app, pTm, Ty.bytes, kbytes, Ty.zeroD, Ty.size, Ty.cmp, Ty.depth, Go.SE.look, reduceCtorEq, Nat.reduceAdd, Nat.reduceSub, Nat.reduceMul, Nat.reduceEqDiff, Nat.reduceLT, Nat.reduceLeDiff, Nat.reduceMod, Nat.reduceDiv, Nat.reducePow, Nat.reduceBEq, Int.reduceToNat, Int.reduceLE, Int.reduceLT, Int.reduceEq, Int.reduceAdd, Int.reduceMul, Int.reduceSub, Int.reduceNeg, Int.reduceNe, Tryd.TS, Tryd.ev_g0, Tryd.ev1_g0, Tryd.ev_g1, Tryd.ev1_g1]
    rw [show 2 ^ 0 * ((hi * 115792089237316195423570985008687907853269984665640564039457584007913129639936 + lo) / b) = (hi * 115792089237316195423570985008687907853269984665640564039457584007913129639936 + lo) / b by omega]
    simp only [and_self]
end Go.Proofs
/- Numbers of 256 bits: division, by the program; lengths. -/
namespace Go.Proofs
open Go.SE

theorem bl_top {a x k : Nat} (hx : x ≠ 0) (ha : a < 2 ^ k) : bl (a + 2 ^ k * x) = k + bl x := by
  have hp := Nat.two_pow_pos k
  have h := bl_div (x := a + 2 ^ k * x) k (Nat.le_trans (Nat.le_mul_of_pos_right _ (by omega)) (Nat.le_add_left _ _))
  rw [Nat.add_mul_div_left _ _ hp, Nat.div_eq_of_lt ha, Nat.zero_add] at h
  exact h

set_option maxHeartbeats 1000000 in
theorem wlen (n : Nat) (hn : n < 115792089237316195423570985008687907853269984665640564039457584007913129639936) : SCall Tryd.prog 88 [(.arr 4 (.int .u64), u256 n)] (fun rs => rs = [.d (.int .i64) (.n (bl n))]) := by
  obtain ⟨a, b, c, d, ha, hb, hc, hd, en, eu⟩ := u256_open n hn
  rw [eu]
  refine scall_intro (n := 19) (rl := [.tmp 2]) (us := [3]) Tryd.hT Tryd.func88 rfl rfl rfl rfl rfl (Nat.le_of_ble_eq_true rfl) ?_
  intro w0
  simp -dsimp -implicitDefEqProofs (disch := omega) only [↓gpre, ↓bldS, ↓bld, ↓reduceIte, ↓gmore, gpost, gall, keepT, den, del, upd, dels, refs, hasTy, sArgs, aRefs, rvs, nodupB, memB, app, pTm, Ty.bytes, kbytes, Ty.zeroD, Ty.size, Ty.cmp, Ty.depth, Go.SE.look, reduceCtorEq, Nat.reduceAdd, Nat.reduceSub, Nat.reduceMul, Nat.reduceEqDiff, Nat.reduceLT, Nat.reduceLeDiff, Nat.reduceMod, Nat.reduceDiv, Nat.reducePow, Nat.reduceBEq, Int.reduceToNat, Int.reduceLE, Int.reduceLT, Int.reduceEq, Int.reduceAdd, Int.reduceMul, Int.reduceSub, Int.reduceNeg, Int.reduceNe, Tryd.TS, Tryd.ev_g0, Tryd.ev1_g0, Tryd.ev_g1, Tryd.ev1_g1]
  refine sunrollK [1, 2, 3] Tryd.hT ?_; simp -dsimp -implicitDefEqProofs (disch := omega) only [↓gpre, ↓bldS, ↓bld, ↓reduceIte, ↓gmore, gpost, gall, keepT, den, del, upd, dels, refs, hasTy, sArgs, aRefs, rvs, nodupB, memB, app, pTm, Ty.bytes, kbytes, Ty.zeroD, Ty.size, Ty.cmp, Ty.depth, Go.SE.look, reduceCtorEq, Nat.reduceAdd, Nat.reduceSub, Nat.reduceMul, Nat.reduceEqDiff, Nat.reduceLT, Nat.reduceLeDiff, Nat.reduceMod, Nat.reduceDiv, Nat.reducePow, Nat.reduceBEq, Int.reduceToNat, Int.reduceLE, Int.reduceLT, Int.reduceEq, Int.reduceAdd, Int.reduceMul, Int.reduceSub, Int.reduceNeg, Int.reduceNe, Tryd.TS, Tryd.ev_g0, Tryd.ev1_g0, Tryd.ev_g1, Tryd.ev1_g1]
  refine HIf_ndec (a := ()) (b := ()) (fun zd => ?_) (fun zd => ?_)
  · simp -dsimp -implicitDefEqProofs (disch := omega) only [↓gpre, ↓bldS, ↓bld, ↓reduceIte, ↓gmore, gpost, gall, keepT, den, del, upd, dels, refs, hasTy, sArgs, aRefs, rvs, nodupB, memB, app, pTm, Ty.bytes, kbytes, Ty.zeroD, Ty.size, Ty.cmp, Ty.depth, Go.SE.look, reduceCtorEq, Nat.reduceAdd, Nat.reduceSub, Nat.reduceMul, Nat.reduceEqDiff, Nat.reduceLT, Nat.reduceLeDiff, Nat.reduceMod, Nat.reduceDiv, Nat.reducePow, Nat.reduceBEq, Int.reduceToNat, Int.reduceLE, Int.reduceLT, Int.reduceEq, Int.reduceAdd, Int.reduceMul, Int.reduceSub, Int.reduceNeg, Int.reduceNe, Tryd.TS, Tryd.ev_g0, Tryd.ev1_g0, Tryd.ev_g1, Tryd.ev1_g1]
    refine SCall.mono (len64 d hd) ?_; rintro rs rfl
    have := bl_le (show d < 2 ^ 64 from hd)
    simp -dsimp -implicitDefEqProofs (disch := omega) only [↓gpre, ↓bldS, ↓bld, ↓reduceIte, ↓gmore, gpost, gall, keepT, den, del, upd, dels, refs, hasTy, sArgs, aRefs, rvs, nodupB, memB, app, pTm, Ty.bytes, kbytes, Ty.zeroD, Ty.size, Ty.cmp, Ty.depth, Go.SE.look, reduceCtorEq, Nat.reduceAdd, Nat.reduceSub, Nat.reduceMul, Nat.reduceEqDiff, Nat.reduceLT, Nat.reduceLeDiff, Nat.reduceMod, Nat.reduceDiv, Nat.reducePow, Nat.reduceBEq, Int.reduceToNat, Int.reduceLE, Int.reduceLT, Int.reduceEq, Int.reduceAdd, Int.reduceMul, Int.reduceSub, Int.reduceNeg, Int.reduceNe, Tryd.TS, Tryd.ev_g0, Tryd.ev1_g0, Tryd.ev_g1, Tryd.ev1_g1, show IntKind.i64.wrap (192 + ((bl d : Nat) : Int)) = ((192 + bl d : Nat) : Int) by rw [IntWalk.i64_in _ (by omega)]; omega]
    rw [show bl n = 192 + bl d from by rw [show n = (a + 18446744073709551616 * b + 340282366920938463463374607431768211456 * c) + 2 ^ 192 * d by omega]; exact bl_top (by omega) (by omega)]
  simp -dsimp -implicitDefEqProofs (disch := omega) only [↓gpre, ↓bldS, ↓bld, ↓reduceIte, ↓gmore, gpost, gall, keepT, den, del, upd, dels, refs, hasTy, sArgs, aRefs, rvs, nodupB, memB, app, pTm, Ty.bytes, kbytes, Ty.zeroD, Ty.size, Ty.cmp, Ty.depth, Go.SE.look, reduceCtorEq, Nat.reduceAdd, Nat.reduceSub, Nat.reduceMul, Nat.reduceEqDiff, Nat.reduceLT, Nat.reduceLeDiff, Nat.reduceMod, Nat.reduceDiv, Nat.reducePow, Nat.reduceBEq, Int.reduceToNat, Int.reduceLE, Int.reduceLT, Int.reduceEq, Int.reduceAdd, Int.reduceMul, Int.reduceSub, Int.reduceNeg, Int.reduceNe, Tryd.TS, Tryd.ev_g0, Tryd.ev1_g0, Tryd.ev_g1, Tryd.ev1_g1]
  refine sunrollK [1, 2, 3] Tryd.hT ?_; simp -dsimp -implicitDefEqProofs (disch := omega) only [↓gpre, ↓bldS, ↓bld, ↓reduceIte, ↓gmore, gpost, gall, keepT, den, del, upd, dels, refs, hasTy, sArgs, aRefs, rvs, nodupB, memB, app, pTm, Ty.bytes, kbytes, Ty.zeroD, Ty.size, Ty.cmp, Ty.depth, Go.SE.look, reduceCtorEq, Nat.reduceAdd, Nat.reduceSub, Nat.reduceMul, Nat.reduceEqDiff, Nat.reduceLT, Nat.reduceLeDiff, Nat.reduceMod, Nat.reduceDiv, Nat.reducePow, Nat.reduceBEq, Int.reduceToNat, Int.reduceLE, Int.reduceLT, Int.reduceEq, Int.reduceAdd, Int.reduceMul, Int.reduceSub, Int.reduceNeg, Int.reduceNe, Tryd.TS, Tryd.ev_g0, Tryd.ev1_g0, Tryd.ev_g1, Tryd.ev1_g1]
  refine HIf_ndec (a := ()) (b := ()) (fun zc => ?_) (fun zc => ?_)
  · simp -dsimp -implicitDefEqProofs (disch := omega) only [↓gpre, ↓bldS, ↓bld, ↓reduceIte, ↓gmore, gpost, gall, keepT, den, del, upd, dels, refs, hasTy, sArgs, aRefs, rvs, nodupB, memB, app, pTm, Ty.bytes, kbytes, Ty.zeroD, Ty.size, Ty.cmp, Ty.depth, Go.SE.look, reduceCtorEq, Nat.reduceAdd, Nat.reduceSub, Nat.reduceMul, Nat.reduceEqDiff, Nat.reduceLT, Nat.reduceLeDiff, Nat.reduceMod, Nat.reduceDiv, Nat.reducePow, Nat.reduceBEq, Int.reduceToNat, Int.reduceLE, Int.reduceLT, Int.reduceEq, Int.reduceAdd, Int.reduceMul, Int.reduceSub, Int.reduceNeg, Int.reduceNe, Tryd.TS, Tryd.ev_g0, Tryd.ev1_g0, Tryd.ev_g1, Tryd.ev1_g1]
    refine SCall.mono (len64 c hc) ?_; rintro rs rfl
    have := bl_le (show c < 2 ^ 64 from hc)
    simp -dsimp -implicitDefEqProofs (disch := omega) only [↓gpre, ↓bldS, ↓bld, ↓reduceIte, ↓gmore, gpost, gall, keepT, den, del, upd, dels, refs, hasTy, sArgs, aRefs, rvs, nodupB, memB, app, pTm, Ty.bytes, kbytes, Ty.zeroD, Ty.size, Ty.cmp, Ty.depth, Go.SE.look, reduceCtorEq, Nat.reduceAdd, Nat.reduceSub, Nat.reduceMul, Nat.reduceEqDiff, Nat.reduceLT, Nat.reduceLeDiff, Nat.reduceMod, Nat.reduceDiv, Nat.reducePow, Nat.reduceBEq, Int.reduceToNat, Int.reduceLE, Int.reduceLT, Int.reduceEq, Int.reduceAdd, Int.reduceMul, Int.reduceSub, Int.reduceNeg, Int.reduceNe, Tryd.TS, Tryd.ev_g0, Tryd.ev1_g0, Tryd.ev_g1, Tryd.ev1_g1, show IntKind.i64.wrap (128 + ((bl c : Nat) : Int)) = ((128 + bl c : Nat) : Int) by rw [IntWalk.i64_in _ (by omega)]; omega]
    rw [show bl n = 128 + bl c from by rw [show n = (a + 18446744073709551616 * b) + 2 ^ 128 * c by omega]; exact bl_top (by omega) (by omega)]
  simp -dsimp -implicitDefEqProofs (disch := omega) only [↓gpre, ↓bldS, ↓bld, ↓reduceIte, ↓gmore, gpost, gall, keepT, den, del, upd, dels, refs, hasTy, sArgs, aRefs, rvs, nodupB, memB, app, pTm, Ty.bytes, kbytes, Ty.zeroD, Ty.size, Ty.cmp, Ty.depth, Go.SE.look, reduceCtorEq, Nat.reduceAdd, Nat.reduceSub, Nat.reduceMul, Nat.reduceEqDiff, Nat.reduceLT, Nat.reduceLeDiff, Nat.reduceMod, Nat.reduceDiv, Nat.reducePow, Nat.reduceBEq, Int.reduceToNat, Int.reduceLE, Int.reduceLT, Int.reduceEq, Int.reduceAdd, Int.reduceMul, Int.reduceSub, Int.reduceNeg, Int.reduceNe, Tryd.TS, Tryd.ev_g0, Tryd.ev1_g0, Tryd.ev_g1, Tryd.ev1_g1]
  refine sunrollK [1, 2, 3] Tryd.hT ?_; simp -dsimp -implicitDefEqProofs (disch := omega) only [↓gpre, ↓bldS, ↓bld, ↓reduceIte, ↓gmore, gpost, gall, keepT, den, del, upd, dels, refs, hasTy, sArgs, aRefs, rvs, nodupB, memB, app, pTm, Ty.bytes, kbytes, Ty.zeroD, Ty.size, Ty.cmp, Ty.depth, Go.SE.look, reduceCtorEq, Nat.reduceAdd, Nat.reduceSub, Nat.reduceMul, Nat.reduceEqDiff, Nat.reduceLT, Nat.reduceLeDiff, Nat.reduceMod, Nat.reduceDiv, Nat.reducePow, Nat.reduceBEq, Int.reduceToNat, Int.reduceLE, Int.reduceLT, Int.reduceEq, Int.reduceAdd, Int.reduceMul, Int.reduceSub, Int.reduceNeg, Int.reduceNe, Tryd.TS, Tryd.ev_g0, Tryd.ev1_g0, Tryd.ev_g1, Tryd.ev1_g1]
  refine HIf_ndec (a := ()) (b := ()) (fun zb => ?_) (fun zb => ?_)
  · simp -dsimp -implicitDefEqProofs (disch := omega) only [↓gpre, ↓bldS, ↓bld, ↓reduceIte, ↓gmore, gpost, gall, keepT, den, del, upd, dels, refs, hasTy, sArgs, aRefs, rvs, nodupB, memB, app, pTm, Ty.bytes, kbytes, Ty.zeroD, Ty.size, Ty.cmp, Ty.depth, Go.SE.look, reduceCtorEq, Nat.reduceAdd, Nat.reduceSub, Nat.reduceMul, Nat.reduceEqDiff, Nat.reduceLT, Nat.reduceLeDiff, Nat.reduceMod, Nat.reduceDiv, Nat.reducePow, Nat.reduceBEq, Int.reduceToNat, Int.reduceLE, Int.reduceLT, Int.reduceEq, Int.reduceAdd, Int.reduceMul, Int.reduceSub, Int.reduceNeg, Int.reduceNe, Tryd.TS, Tryd.ev_g0, Tryd.ev1_g0, Tryd.ev_g1, Tryd.ev1_g1]
    refine SCall.mono (len64 b hb) ?_; rintro rs rfl
    have := bl_le (show b < 2 ^ 64 from hb)
    simp -dsimp -implicitDefEqProofs (disch := omega) only [↓gpre, ↓bldS, ↓bld, ↓reduceIte, ↓gmore, gpost, gall, keepT, den, del, upd, dels, refs, hasTy, sArgs, aRefs, rvs, nodupB, memB, app, pTm, Ty.bytes, kbytes, Ty.zeroD, Ty.size, Ty.cmp, Ty.depth, Go.SE.look, reduceCtorEq, Nat.reduceAdd, Nat.reduceSub, Nat.reduceMul, Nat.reduceEqDiff, Nat.reduceLT, Nat.reduceLeDiff, Nat.reduceMod, Nat.reduceDiv, Nat.reducePow, Nat.reduceBEq, Int.reduceToNat, Int.reduceLE, Int.reduceLT, Int.reduceEq, Int.reduceAdd, Int.reduceMul, Int.reduceSub, Int.reduceNeg, Int.reduceNe, Tryd.TS, Tryd.ev_g0, Tryd.ev1_g0, Tryd.ev_g1, Tryd.ev1_g1, show IntKind.i64.wrap (64 + ((bl b : Nat) : Int)) = ((64 + bl b : Nat) : Int) by rw [IntWalk.i64_in _ (by omega)]; omega]
    rw [show bl n = 64 + bl b from by rw [show n = a + 2 ^ 64 * b by omega]; exact bl_top (by omega) (by omega)]
  simp -dsimp -implicitDefEqProofs (disch := omega) only [↓gpre, ↓bldS, ↓bld, ↓reduceIte, ↓gmore, gpost, gall, keepT, den, del, upd, dels, refs, hasTy, sArgs, aRefs, rvs, nodupB, memB, app, pTm, Ty.bytes, kbytes, Ty.zeroD, Ty.size, Ty.cmp, Ty.depth, Go.SE.look, reduceCtorEq, Nat.reduceAdd, Nat.reduceSub, Nat.reduceMul, Nat.reduceEqDiff, Nat.reduceLT, Nat.reduceLeDiff, Nat.reduceMod, Nat.reduceDiv, Nat.reducePow, Nat.reduceBEq, Int.reduceToNat, Int.reduceLE, Int.reduceLT, Int.reduceEq, Int.reduceAdd, Int.reduceMul, Int.reduceSub, Int.reduceNeg, Int.reduceNe, Tryd.TS, Tryd.ev_g0, Tryd.ev1_g0, Tryd.ev_g1, Tryd.ev1_g1]
  refine sunrollK [1, 2, 3] Tryd.hT ?_; simp -dsimp -implicitDefEqProofs (disch := omega) only [↓gpre, ↓bldS, ↓bld, ↓reduceIte, ↓gmore, gpost, gall, keepT, den, del, upd, dels, refs, hasTy, sArgs, aRefs, rvs, nodupB, memB, app, pTm, Ty.bytes, kbytes, Ty.zeroD, Ty.size, Ty.cmp, Ty.depth, Go.SE.look, reduceCtorEq, Nat.reduceAdd, Nat.reduceSub, Nat.reduceMul, Nat.reduceEqDiff, Nat.reduceLT, Nat.reduceLeDiff, Nat.reduceMod, Nat.reduceDiv, Nat.reducePow, Nat.reduceBEq, Int.reduceToNat, Int.reduceLE, Int.reduceLT, Int.reduceEq, Int.reduceAdd, Int.reduceMul, Int.reduceSub, Int.reduceNeg, Int.reduceNe, Tryd.TS, Tryd.ev_g0, Tryd.ev1_g0, Tryd.ev_g1, Tryd.ev1_g1]
  refine HIf_ndec (a := ()) (b := ()) (fun za => ?_) (fun za => ?_)
  · simp -dsimp -implicitDefEqProofs (disch := omega) only [↓gpre, ↓bldS, ↓bld, ↓reduceIte, ↓gmore, gpost, gall, keepT, den, del, upd, dels, refs, hasTy, sArgs, aRefs, rvs, nodupB, memB, app, pTm, Ty.bytes, kbytes, Ty.zeroD, Ty.size, Ty.cmp, Ty.depth, Go.SE.look, reduceCtorEq, Nat.reduceAdd, Nat.reduceSub, Nat.reduceMul, Nat.reduceEqDiff, Nat.reduceLT, Nat.reduceLeDiff, Nat.reduceMod, Nat.reduceDiv, Nat.reducePow, Nat.reduceBEq, Int.reduceToNat, Int.reduceLE, Int.reduceLT, Int.reduceEq, Int.reduceAdd, Int.reduceMul, Int.reduceSub, Int.reduceNeg, Int.reduceNe, Tryd.TS, Tryd.ev_g0, Tryd.ev1_g0, Tryd.ev_g1, Tryd.ev1_g1]
    refine SCall.mono (len64 a ha) ?_; rintro rs rfl
    have := bl_le (show a < 2 ^ 64 from ha)
    simp -dsimp -implicitDefEqProofs (disch := omega) only [↓gpre, ↓bldS, ↓bld, ↓reduceIte, ↓gmore, gpost, gall, keepT, den, del, upd, dels, refs, hasTy, sArgs, aRefs, rvs, nodupB, memB, app, pTm, Ty.bytes, kbytes, Ty.zeroD, Ty.size, Ty.cmp, Ty.depth, Go.SE.look, reduceCtorEq, Nat.reduceAdd, Nat.reduceSub, Nat.reduceMul, Nat.reduceEqDiff, Nat.reduceLT, Nat.reduceLeDiff, Nat.reduceMod, Nat.reduceDiv, Nat.reducePow, Nat.reduceBEq, Int.reduceToNat, Int.reduceLE, Int.reduceLT, Int.reduceEq, Int.reduceAdd, Int.reduceMul, Int.reduceSub, Int.reduceNeg, Int.reduceNe, Tryd.TS, Tryd.ev_g0, Tryd.ev1_g0, Tryd.ev_g1, Tryd.ev1_g1, show IntKind.i64.wrap (0 + ((bl a : Nat) : Int)) = ((0 + bl a : Nat) : Int) by rw [IntWalk.i64_in _ (by omega)]; omega]
    rw [show n = a by omega]
  simp -dsimp -implicitDefEqProofs (disch := omega) only [↓gpre, ↓bldS, ↓bld, ↓reduceIte, ↓gmore, gpost, gall, keepT, den, del, upd, dels, refs, hasTy, sArgs, aRefs, rvs, nodupB, memB, app, pTm, Ty.bytes, kbytes, Ty.zeroD, Ty.size, Ty.cmp, Ty.depth, Go.SE.look, reduceCtorEq, Nat.reduceAdd, Nat.reduceSub, Nat.reduceMul, Nat.reduceEqDiff, Nat.reduceLT, Nat.reduceLeDiff, Nat.reduceMod, Nat.reduceDiv, Nat.reducePow, Nat.reduceBEq, Int.reduceToNat, Int.reduceLE, Int.reduceLT, Int.reduceEq, Int.reduceAdd, Int.reduceMul, Int.reduceSub, Int.reduceNeg, Int.reduceNe, Tryd.TS, Tryd.ev_g0, Tryd.ev1_g0, Tryd.ev_g1, Tryd.ev1_g1]
  refine sunrollK [1, 2, 3] Tryd.hT ?_; simp -dsimp -implicitDefEqProofs (disch := omega) only [↓gpre, ↓bldS, ↓bld, ↓reduceIte, ↓gmore, gpost, gall, keepT, den, del, upd, dels, refs, hasTy, sArgs, aRefs, rvs, nodupB, memB, app, pTm, Ty.bytes, kbytes, Ty.zeroD, Ty.size, Ty.cmp, Ty.depth, Go.SE.look, reduceCtorEq, Nat.reduceAdd, Nat.reduceSub, Nat.reduceMul, Nat.reduceEqDiff, Nat.reduceLT, Nat.reduceLeDiff, Nat.reduceMod, Nat.reduceDiv, Nat.reducePow, Nat.reduceBEq, Int.reduceToNat, Int.reduceLE, Int.reduceLT, Int.reduceEq, Int.reduceAdd, Int.reduceMul, Int.reduceSub, Int.reduceNeg, Int.reduceNe, Tryd.TS, Tryd.ev_g0, Tryd.ev1_g0, Tryd.ev_g1, Tryd.ev1_g1]
  rw [show n = 0 by omega]
  rfl

set_option maxHeartbeats 2000000 in
theorem wdiv (hi lo b : Nat) (hhi : hi < b) (hlo : lo < 115792089237316195423570985008687907853269984665640564039457584007913129639936) (hb : b < 115792089237316195423570985008687907853269984665640564039457584007913129639936) : SCall Tryd.prog 107 [(.arr 4 (.int .u64), u256 hi), (.arr 4 (.int .u64), u256 lo), (.arr 4 (.int .u64), u256 b)]
    (fun rs => rs = [.d (.arr 4 (.int .u64)) (u256 ((hi * 115792089237316195423570985008687907853269984665640564039457584007913129639936 + lo) / b)), .d (.arr 4 (.int .u64)) (u256 ((hi * 115792089237316195423570985008687907853269984665640564039457584007913129639936 + lo) % b)), .d .bool (.b true)]) := by
  refine scall_intro (n := 85) (rl := [.cell 6 45, .cell 7 45, .tmp 8]) (us := [45, 45, 4]) Tryd.hT Tryd.func107 rfl rfl rfl rfl rfl (Nat.le_of_ble_eq_true rfl) ?_
  intro w0
  simp -dsimp -implicitDefEqProofs (disch := omega) only [↓gpre, ↓bldS, ↓bld, ↓reduceIte, ↓gmore, gpost, gall, keepT, den, del, upd, dels, refs, hasTy, sArgs, aRefs, rvs, nodupB, memB, app, pTm, Ty.bytes, kbytes, Ty.zeroD, Ty.size, Ty.cmp, Ty.depth, Go.SE.look, reduceCtorEq, Nat.reduceAdd, Nat.reduceSub, Nat.reduceMul, Nat.reduceEqDiff, Nat.reduceLT, Nat.reduceLeDiff, Nat.reduceMod, Nat.reduceDiv, Nat.reducePow, Nat.reduceBEq, Int.reduceToNat, Int.reduceLE, Int.reduceLT, Int.reduceEq, Int.reduceAdd, Int.reduceMul, Int.reduceSub, Int.reduceNeg, Int.reduceNe, Tryd.TS, Tryd.ev_g0, Tryd.ev1_g0, Tryd.ev_g1, Tryd.ev1_g1, rep4]
  refine SCall.mono (wcmp hi b (by omega) (by omega)) ?_; rintro rs rfl
  rw [if_pos hhi]
  simp -dsimp -implicitDefEqProofs (disch := omega) only [↓gpre, ↓bldS, ↓bld, ↓reduceIte, ↓gmore, gpost, gall, keepT, den, del, upd, dels, refs, hasTy, sArgs, aRefs, rvs, nodupB, memB, app, pTm, Ty.bytes, kbytes, Ty.zeroD, Ty.size, Ty.cmp, Ty.depth, Go.SE.look, reduceCtorEq, Nat.reduceAdd, Nat.reduceSub, Nat.reduceMul, Nat.reduceEqDiff, Nat.reduceLT, Nat.reduceLeDiff, Nat.reduceMod, Nat.reduceDiv, Nat.reducePow, Nat.reduceBEq, Int.reduceToNat, Int.reduceLE, Int.reduceLT, Int.reduceEq, Int.reduceAdd, Int.reduceMul, Int.reduceSub, Int.reduceNeg, Int.reduceNe, Tryd.TS, Tryd.ev_g0, Tryd.ev1_g0, Tryd.ev_g1, Tryd.ev1_g1, rep4, u256_zero, u256_inj (show hi < 115792089237316195423570985008687907853269984665640564039457584007913129639936 by omega) (show 0 < 115792089237316195423570985008687907853269984665640564039457584007913129639936 by omega)]
  refine HIf_dec (a := ()) (b := ()) (fun hz => ?_) (fun hz => ?_)
  · simp -dsimp -implicitDefEqProofs (disch := omega) only [↓gpre, ↓bldS, ↓bld, ↓reduceIte, ↓gmore, gpost, gall, keepT, den, del, upd, dels, refs, hasTy, sArgs, aRefs, rvs, nodupB, memB, app, pTm, Ty.bytes, kbytes, Ty.zeroD, Ty.size, Ty.cmp, Ty.depth, Go.SE.look, reduceCtorEq, Nat.reduceAdd, Nat.reduceSub, Nat.reduceMul, Nat.reduceEqDiff, Nat.reduceLT, Nat.reduceLeDiff, Nat.reduceMod, Nat.reduceDiv, Nat.reducePow, Nat.reduceBEq, Int.reduceToNat, Int.reduceLE, Int.reduceLT, Int.reduceEq, Int.reduceAdd, Int.reduceMul, Int.reduceSub, Int.reduceNeg, Int.reduceNe, Tryd.TS, Tryd.ev_g0, Tryd.ev1_g0, Tryd.ev_g1, Tryd.ev1_g1]
    refine SCall.mono (wlen lo hlo) ?_; rintro rs rfl
    have hbl := bl_le (show lo < 2 ^ 256 from hlo)
    have hdiv : lo / 2 ^ bl lo = 0 := Nat.div_eq_of_lt bl_lt
    simp -dsimp -implicitDefEqProofs (disch := omega) only [↓gpre, ↓bldS, ↓bld, ↓reduceIte, ↓gmore, gpost, gall, keepT, den, del, upd, dels, refs, hasTy, sArgs, aRefs, rvs, nodupB, memB, app, pTm, Ty.bytes, kbytes, Ty.zeroD, Ty.size, Ty.cmp, Ty.depth, Go.SE.look, reduceCtorEq, Nat.reduceAdd, Nat.reduceSub, Nat.reduceMul, Nat.reduceEqDiff, Nat.reduceLT, Nat.reduceLeDiff, Nat.reduceMod, Nat.reduceDiv, Nat.reducePow, Nat.reduceBEq, Int.reduceToNat, Int.reduceLE, Int.reduceLT, Int.reduceEq, Int.reduceAdd, Int.reduceMul, Int.reduceSub, Int.reduceNeg, Int.reduceNe, Tryd.TS, Tryd.ev_g0, Tryd.ev1_g0, Tryd.ev_g1, Tryd.ev1_g1]
    refine sloop Tryd.hT (α := Nat × Nat × Nat) (fun x => ⟨85, [(9, .v (.d (.int .i64) (.n ((x.1 : Int) - 1)))), (3, .v (.ptr 0 [])), (4, .v (.ptr 1 [])), (5, .v (.ptr 2 [])), (6, .v (.ptr 3 [])), (7, .v (.ptr 4 []))], [(0, ⟨.arr 4 (.int .u64), .d (.arr 4 (.int .u64)) (u256 hi)⟩), (1, ⟨.arr 4 (.int .u64), .d (.arr 4 (.int .u64)) (u256 lo)⟩), (2, ⟨.arr 4 (.int .u64), .d (.arr 4 (.int .u64)) (u256 b)⟩), (3, ⟨.arr 4 (.int .u64), .d (.arr 4 (.int .u64)) (u256 (2 ^ x.1 * x.2.1))⟩), (4, ⟨.arr 4 (.int .u64), .d (.arr 4 (.int .u64)) (u256 x.2.2)⟩)], 5⟩) (fun x => DivI hi lo b x.1 x.2.1 x.2.2) (fun x => x.1) (bl lo, 0, hi) ?_ ⟨hbl, by simp [hdiv, hz], hhi⟩ ?_
    · refine sub_ren w0 [(0, 0), (1, 1), (2, 2), (3, 3), (4, 4)] rfl (by simp [keysLt]) rfl ?_ ?_
      · simp [renTm, Go.SE.look, renTV, renSV]
      · simp [renOb, Go.SE.look, renSV, u256_zero]
    rintro ⟨i, Q, r⟩ hI
    simp only at hI
    have hr := hI.lt
    have hq := hI.q_lt hhi hlo
    have hile := hI.le
    simp -dsimp -implicitDefEqProofs (disch := omega) only [↓gpre, ↓bldS, ↓bld, ↓reduceIte, ↓gmore, gpost, gall, keepT, den, del, upd, dels, refs, hasTy, sArgs, aRefs, rvs, nodupB, memB, app, pTm, Ty.bytes, kbytes, Ty.zeroD, Ty.size, Ty.cmp, Ty.depth, Go.SE.look, reduceCtorEq, Nat.reduceAdd, Nat.reduceSub, Nat.reduceMul, Nat.reduceEqDiff, Nat.reduceLT, Nat.reduceLeDiff, Nat.reduceMod, Nat.reduceDiv, Nat.reducePow, Nat.reduceBEq, Int.reduceToNat, Int.reduceLE, Int.reduceLT, Int.reduceEq, Int.reduceAdd, Int.reduceMul, Int.reduceSub, Int.reduceNeg, Int.reduceNe, Tryd.TS, Tryd.ev_g0, Tryd.ev1_g0, Tryd.ev_g1, Tryd.ev1_g1]
    refine HIf_dec (a := ()) (b := ()) (fun h => ?_) (fun h => ?_)
    · obtain ⟨k, rfl⟩ : ∃ k, i = k + 1 := ⟨i - 1, by omega⟩
      rw [show (((k + 1 : Nat) : Int) - 1) = (k : Int) by omega]
      have hk4 : k / 64 < 4 := by omega
      have hclear : 2 ^ (k + 1) * Q / 2 ^ k % 2 = 0 := by
        rw [Nat.pow_succ, Nat.mul_assoc, Nat.mul_div_cancel_left _ (Nat.two_pow_pos k)]; omega
      have hset := u256_set hq (show k < 256 by omega) hclear
      have hqe : 2 ^ (k + 1) * Q + 2 ^ k = 2 ^ k * (2 * Q + 1) := by rw [Nat.mul_add, Nat.mul_one, Nat.pow_succ, Nat.mul_assoc]
      have hqe2 : 2 ^ (k + 1) * Q = 2 ^ k * (2 * Q) := by rw [Nat.pow_succ, Nat.mul_assoc]
      have hbit2 : lo / 2 ^ k % 2 < 2 := Nat.mod_lt _ (by omega)
      simp -dsimp -implicitDefEqProofs (disch := omega) only [↓gpre, ↓bldS, ↓bld, ↓reduceIte, ↓gmore, gpost, gall, keepT, den, del, upd, dels, refs, hasTy, sArgs, aRefs, rvs, nodupB, memB, app, pTm, Ty.bytes, kbytes, Ty.zeroD, Ty.size, Ty.cmp, Ty.depth, Go.SE.look, reduceCtorEq, Nat.reduceAdd, Nat.reduceSub, Nat.reduceMul, Nat.reduceEqDiff, Nat.reduceLT, Nat.reduceLeDiff, Nat.reduceMod, Nat.reduceDiv, Nat.reducePow, Nat.reduceBEq, Int.reduceToNat, Int.reduceLE, Int.reduceLT, Int.reduceEq, Int.reduceAdd, Int.reduceMul, Int.reduceSub, Int.reduceNeg, Int.reduceNe, Tryd.TS, Tryd.ev_g0, Tryd.ev1_g0, Tryd.ev_g1, Tryd.ev1_g1, u256_at3, u256_list, sr63]
      refine SCall.mono (wshl1 r (by omega)) ?_; rintro rs rfl
      simp -dsimp -implicitDefEqProofs (disch := omega) only [↓gpre, ↓bldS, ↓bld, ↓reduceIte, ↓gmore, gpost, gall, keepT, den, del, upd, dels, refs, hasTy, sArgs, aRefs, rvs, nodupB, memB, app, pTm, Ty.bytes, kbytes, Ty.zeroD, Ty.size, Ty.cmp, Ty.depth, Go.SE.look, reduceCtorEq, Nat.reduceAdd, Nat.reduceSub, Nat.reduceMul, Nat.reduceEqDiff, Nat.reduceLT, Nat.reduceLeDiff, Nat.reduceMod, Nat.reduceDiv, Nat.reducePow, Nat.reduceBEq, Int.reduceToNat, Int.reduceLE, Int.reduceLT, Int.reduceEq, Int.reduceAdd, Int.reduceMul, Int.reduceSub, Int.reduceNeg, Int.reduceNe, Tryd.TS, Tryd.ev_g0, Tryd.ev1_g0, Tryd.ev_g1, Tryd.ev1_g1]
      refine sdraw Tryd.hT (by kernel_rfl) [12] [0, 1, 2, 3, 4, 5, 6, 7, 8, 9, 10, 11, 12] (by kernel_rfl) (by kernel_rfl) (by kernel_rfl) ?_; simp only [pickO, List.getElem?_toArray, List.getElem?_cons_zero, List.getElem?_cons_succ]
      simp -dsimp -implicitDefEqProofs (disch := omega) only [↓gpre, ↓bldS, ↓bld, ↓reduceIte, ↓gmore, gpost, gall, keepT, den, del, upd, dels, refs, hasTy, sArgs, aRefs, rvs, nodupB, memB, app, pTm, Ty.bytes, kbytes, Ty.zeroD, Ty.size, Ty.cmp, Ty.depth, Go.SE.look, reduceCtorEq, Nat.reduceAdd, Nat.reduceSub, Nat.reduceMul, Nat.reduceEqDiff, Nat.reduceLT, Nat.reduceLeDiff, Nat.reduceMod, Nat.reduceDiv, Nat.reducePow, Nat.reduceBEq, Int.reduceToNat, Int.reduceLE, Int.reduceLT, Int.reduceEq, Int.reduceAdd, Int.reduceMul, Int.reduceSub, Int.reduceNeg, Int.reduceNe, Tryd.TS, Tryd.ev_g0, Tryd.ev1_g0, Tryd.ev_g1, Tryd.ev1_g1, td64, tm64, u256_at0, u256_at _ hk4, u256_list, shrN (show k % 64 ≤ 64 by omega), and_one (limb_lt _ _ _), limb_bit]
      repeat (refine And.intro (by omega) ?_)
      rw [u256_or0 (n := 2 * r % 115792089237316195423570985008687907853269984665640564039457584007913129639936) (Nat.mod_lt _ (by omega)) (by omega) hbit2, show 2 * r % 115792089237316195423570985008687907853269984665640564039457584007913129639936 + lo / 2 ^ k % 2 = (2 * r + lo / 2 ^ k % 2) % 115792089237316195423570985008687907853269984665640564039457584007913129639936 by omega]
      have hVM : (2 * r + lo / 2 ^ k % 2) % 115792089237316195423570985008687907853269984665640564039457584007913129639936 < 115792089237316195423570985008687907853269984665640564039457584007913129639936 := Nat.mod_lt _ (by omega)
      generalize hV : (2 * r + lo / 2 ^ k % 2) % 115792089237316195423570985008687907853269984665640564039457584007913129639936 = V at hVM
      generalize htop : r / 6277101735386680763835789423207666416102355444464034512896 % 18446744073709551616 / 9223372036854775808 = top
      refine sloop Tryd.hT (α := Nat) (fun j => ⟨85, [(11, .v (.d (.int .i64) (.n ((j : Int) - 1)))), (10, .v (.d (.int .u64) (.n top))), (9, .v (.d (.int .i64) (.n k))), (3, .v (.ptr 0 [])), (4, .v (.ptr 1 [])), (5, .v (.ptr 2 [])), (6, .v (.ptr 3 [])), (7, .v (.ptr 4 []))], [(0, ⟨.arr 4 (.int .u64), .d (.arr 4 (.int .u64)) (u256 hi)⟩), (1, ⟨.arr 4 (.int .u64), .d (.arr 4 (.int .u64)) (u256 lo)⟩), (2, ⟨.arr 4 (.int .u64), .d (.arr 4 (.int .u64)) (u256 b)⟩), (3, ⟨.arr 4 (.int .u64), .d (.arr 4 (.int .u64)) (u256 (2 ^ (k + 1) * Q))⟩), (4, ⟨.arr 4 (.int .u64), .d (.arr 4 (.int .u64)) (u256 V)⟩)], 5⟩) (fun j => j ≤ 4 ∧ (top = 0 → V / 2 ^ (64 * j) = b / 2 ^ (64 * j))) (fun j => j) 4 ?_ ⟨Nat.le_refl _, fun _ => by rw [Nat.div_eq_of_lt (show V < 2 ^ (64 * 4) from hVM), Nat.div_eq_of_lt (show b < 2 ^ (64 * 4) from hb)]⟩ ?_
      · refine sub_ren w0 [(0, 0), (1, 1), (2, 2), (3, 3), (4, 4)] rfl (by simp [keysLt]) rfl ?_ ?_
        · simp [renTm, Go.SE.look, renTV, renSV]
        · simp [renOb, Go.SE.look, renSV]
      rintro j ⟨hj4, hj⟩
      simp -dsimp -implicitDefEqProofs (disch := omega) only [↓gpre, ↓bldS, ↓bld, ↓reduceIte, ↓gmore, gpost, gall, keepT, den, del, upd, dels, refs, hasTy, sArgs, aRefs, rvs, nodupB, memB, app, pTm, Ty.bytes, kbytes, Ty.zeroD, Ty.size, Ty.cmp, Ty.depth, Go.SE.look, reduceCtorEq, Nat.reduceAdd, Nat.reduceSub, Nat.reduceMul, Nat.reduceEqDiff, Nat.reduceLT, Nat.reduceLeDiff, Nat.reduceMod, Nat.reduceDiv, Nat.reducePow, Nat.reduceBEq, Int.reduceToNat, Int.reduceLE, Int.reduceLT, Int.reduceEq, Int.reduceAdd, Int.reduceMul, Int.reduceSub, Int.reduceNeg, Int.reduceNe, Tryd.TS, Tryd.ev_g0, Tryd.ev1_g0, Tryd.ev_g1, Tryd.ev1_g1]
      refine HIf_dec (a := ()) (b := ()) (fun hj0 => ?_) (fun hj0 => ?_)
      · obtain ⟨m, rfl⟩ : ∃ m, j = m + 1 := ⟨j - 1, by omega⟩
        rw [show (((m + 1 : Nat) : Int) - 1) = (m : Int) by omega]
        have hm4 : m < 4 := by omega
        simp -dsimp -implicitDefEqProofs (disch := omega) only [↓gpre, ↓bldS, ↓bld, ↓reduceIte, ↓gmore, gpost, gall, keepT, den, del, upd, dels, refs, hasTy, sArgs, aRefs, rvs, nodupB, memB, app, pTm, Ty.bytes, kbytes, Ty.zeroD, Ty.size, Ty.cmp, Ty.depth, Go.SE.look, reduceCtorEq, Nat.reduceAdd, Nat.reduceSub, Nat.reduceMul, Nat.reduceEqDiff, Nat.reduceLT, Nat.reduceLeDiff, Nat.reduceMod, Nat.reduceDiv, Nat.reducePow, Nat.reduceBEq, Int.reduceToNat, Int.reduceLE, Int.reduceLT, Int.reduceEq, Int.reduceAdd, Int.reduceMul, Int.reduceSub, Int.reduceNeg, Int.reduceNe, Tryd.TS, Tryd.ev_g0, Tryd.ev1_g0, Tryd.ev_g1, Tryd.ev1_g1]
        refine HIf_dec (a := ()) (b := ()) (fun ht => ?_) (fun ht => ?_)
        · have hj := hj (by omega)
          simp -dsimp -implicitDefEqProofs (disch := omega) only [↓gpre, ↓bldS, ↓bld, ↓reduceIte, ↓gmore, gpost, gall, keepT, den, del, upd, dels, refs, hasTy, sArgs, aRefs, rvs, nodupB, memB, app, pTm, Ty.bytes, kbytes, Ty.zeroD, Ty.size, Ty.cmp, Ty.depth, Go.SE.look, reduceCtorEq, Nat.reduceAdd, Nat.reduceSub, Nat.reduceMul, Nat.reduceEqDiff, Nat.reduceLT, Nat.reduceLeDiff, Nat.reduceMod, Nat.reduceDiv, Nat.reducePow, Nat.reduceBEq, Int.reduceToNat, Int.reduceLE, Int.reduceLT, Int.reduceEq, Int.reduceAdd, Int.reduceMul, Int.reduceSub, Int.reduceNeg, Int.reduceNe, Tryd.TS, Tryd.ev_g0, Tryd.ev1_g0, Tryd.ev_g1, Tryd.ev1_g1]
          refine sdraw Tryd.hT (by kernel_rfl) [] [0, 1, 2, 3, 4, 5, 6] (by kernel_rfl) (by kernel_rfl) (by kernel_rfl) ?_; simp only [pickO, List.getElem?_toArray, List.getElem?_cons_zero, List.getElem?_cons_succ]
          simp -dsimp -implicitDefEqProofs (disch := omega) only [↓gpre, ↓bldS, ↓bld, ↓reduceIte, ↓gmore, gpost, gall, keepT, den, del, upd, dels, refs, hasTy, sArgs, aRefs, rvs, nodupB, memB, app, pTm, Ty.bytes, kbytes, Ty.zeroD, Ty.size, Ty.cmp, Ty.depth, Go.SE.look, reduceCtorEq, Nat.reduceAdd, Nat.reduceSub, Nat.reduceMul, Nat.reduceEqDiff, Nat.reduceLT, Nat.reduceLeDiff, Nat.reduceMod, Nat.reduceDiv, Nat.reducePow, Nat.reduceBEq, Int.reduceToNat, Int.reduceLE, Int.reduceLT, Int.reduceEq, Int.reduceAdd, Int.reduceMul, Int.reduceSub, Int.reduceNeg, Int.reduceNe, Tryd.TS, Tryd.ev_g0, Tryd.ev1_g0, Tryd.ev_g1, Tryd.ev1_g1, u256_at _ hm4, u256_list]
          repeat (refine And.intro (by omega) ?_)
          refine HIf_dec (a := ()) (b := ()) (fun hl => ?_) (fun hl => ?_)
          · have hlt := limb_less hj (by omega)
            simp -dsimp -implicitDefEqProofs (disch := omega) only [↓gpre, ↓bldS, ↓bld, ↓reduceIte, ↓gmore, gpost, gall, keepT, den, del, upd, dels, refs, hasTy, sArgs, aRefs, rvs, nodupB, memB, app, pTm, Ty.bytes, kbytes, Ty.zeroD, Ty.size, Ty.cmp, Ty.depth, Go.SE.look, reduceCtorEq, Nat.reduceAdd, Nat.reduceSub, Nat.reduceMul, Nat.reduceEqDiff, Nat.reduceLT, Nat.reduceLeDiff, Nat.reduceMod, Nat.reduceDiv, Nat.reducePow, Nat.reduceBEq, Int.reduceToNat, Int.reduceLE, Int.reduceLT, Int.reduceEq, Int.reduceAdd, Int.reduceMul, Int.reduceSub, Int.reduceNeg, Int.reduceNe, Tryd.TS, Tryd.ev_g0, Tryd.ev1_g0, Tryd.ev_g1, Tryd.ev1_g1]
            refine ⟨(k, 2 * Q, 2 * r + lo / 2 ^ k % 2), hI.less (by omega), Nat.lt_succ_self k, ?_⟩
            refine sub_ren w0 [(0, 0), (1, 1), (2, 2), (3, 3), (4, 4)] rfl (by simp [keysLt]) rfl ?_ ?_
            · simp [renTm, Go.SE.look, renTV, renSV]
            · simp [renOb, Go.SE.look, renSV, hqe2]; congr 1; omega
          · simp -dsimp -implicitDefEqProofs (disch := omega) only [↓gpre, ↓bldS, ↓bld, ↓reduceIte, ↓gmore, gpost, gall, keepT, den, del, upd, dels, refs, hasTy, sArgs, aRefs, rvs, nodupB, memB, app, pTm, Ty.bytes, kbytes, Ty.zeroD, Ty.size, Ty.cmp, Ty.depth, Go.SE.look, reduceCtorEq, Nat.reduceAdd, Nat.reduceSub, Nat.reduceMul, Nat.reduceEqDiff, Nat.reduceLT, Nat.reduceLeDiff, Nat.reduceMod, Nat.reduceDiv, Nat.reducePow, Nat.reduceBEq, Int.reduceToNat, Int.reduceLE, Int.reduceLT, Int.reduceEq, Int.reduceAdd, Int.reduceMul, Int.reduceSub, Int.reduceNeg, Int.reduceNe, Tryd.TS, Tryd.ev_g0, Tryd.ev1_g0, Tryd.ev_g1, Tryd.ev1_g1]
            refine sdraw Tryd.hT (by kernel_rfl) [] [0, 1, 2, 3, 4, 5, 6] (by kernel_rfl) (by kernel_rfl) (by kernel_rfl) ?_; simp only [pickO, List.getElem?_toArray, List.getElem?_cons_zero, List.getElem?_cons_succ]
            simp -dsimp -implicitDefEqProofs (disch := omega) only [↓gpre, ↓bldS, ↓bld, ↓reduceIte, ↓gmore, gpost, gall, keepT, den, del, upd, dels, refs, hasTy, sArgs, aRefs, rvs, nodupB, memB, app, pTm, Ty.bytes, kbytes, Ty.zeroD, Ty.size, Ty.cmp, Ty.depth, Go.SE.look, reduceCtorEq, Nat.reduceAdd, Nat.reduceSub, Nat.reduceMul, Nat.reduceEqDiff, Nat.reduceLT, Nat.reduceLeDiff, Nat.reduceMod, Nat.reduceDiv, Nat.reducePow, Nat.reduceBEq, Int.reduceToNat, Int.reduceLE, Int.reduceLT, Int.reduceEq, Int.reduceAdd, Int.reduceMul, Int.reduceSub, Int.reduceNeg, Int.reduceNe, Tryd.TS, Tryd.ev_g0, Tryd.ev1_g0, Tryd.ev_g1, Tryd.ev1_g1, u256_at _ hm4, u256_list]
            repeat (refine And.intro (by omega) ?_)
            refine HIf_dec (a := ()) (b := ()) (fun hg => ?_) (fun hg => ?_)
            · have hgt := limb_less hj.symm (by omega)
              have hge : b ≤ 2 * r + lo / 2 ^ k % 2 := by omega
              subst hV
              simp -dsimp -implicitDefEqProofs (disch := omega) only [↓gpre, ↓bldS, ↓bld, ↓reduceIte, ↓gmore, gpost, gall, keepT, den, del, upd, dels, refs, hasTy, sArgs, aRefs, rvs, nodupB, memB, app, pTm, Ty.bytes, kbytes, Ty.zeroD, Ty.size, Ty.cmp, Ty.depth, Go.SE.look, reduceCtorEq, Nat.reduceAdd, Nat.reduceSub, Nat.reduceMul, Nat.reduceEqDiff, Nat.reduceLT, Nat.reduceLeDiff, Nat.reduceMod, Nat.reduceDiv, Nat.reducePow, Nat.reduceBEq, Int.reduceToNat, Int.reduceLE, Int.reduceLT, Int.reduceEq, Int.reduceAdd, Int.reduceMul, Int.reduceSub, Int.reduceNeg, Int.reduceNe, Tryd.TS, Tryd.ev_g0, Tryd.ev1_g0, Tryd.ev_g1, Tryd.ev1_g1]
              refine SCall.mono (wsub ((2 * r + lo / 2 ^ k % 2) % 115792089237316195423570985008687907853269984665640564039457584007913129639936) b (Nat.mod_lt _ (by omega)) hb) ?_; rintro rs rfl
              rw [show ((2 * r + lo / 2 ^ k % 2) % 115792089237316195423570985008687907853269984665640564039457584007913129639936 + 115792089237316195423570985008687907853269984665640564039457584007913129639936 - b) % 115792089237316195423570985008687907853269984665640564039457584007913129639936 = 2 * r + lo / 2 ^ k % 2 - b by omega]
              simp -dsimp -implicitDefEqProofs (disch := omega) only [↓gpre, ↓bldS, ↓bld, ↓reduceIte, ↓gmore, gpost, gall, keepT, den, del, upd, dels, refs, hasTy, sArgs, aRefs, rvs, nodupB, memB, app, pTm, Ty.bytes, kbytes, Ty.zeroD, Ty.size, Ty.cmp, Ty.depth, Go.SE.look, reduceCtorEq, Nat.reduceAdd, Nat.reduceSub, Nat.reduceMul, Nat.reduceEqDiff, Nat.reduceLT, Nat.reduceLeDiff, Nat.reduceMod, Nat.reduceDiv, Nat.reducePow, Nat.reduceBEq, Int.reduceToNat, Int.reduceLE, Int.reduceLT, Int.reduceEq, Int.reduceAdd, Int.reduceMul, Int.reduceSub, Int.reduceNeg, Int.reduceNe, Tryd.TS, Tryd.ev_g0, Tryd.ev1_g0, Tryd.ev_g1, Tryd.ev1_g1]
              refine sdraw Tryd.hT (by kernel_rfl) [9] [0, 1, 2, 3, 4, 5, 6, 7, 8, 9] (by kernel_rfl) (by kernel_rfl) (by kernel_rfl) ?_; simp only [pickO, List.getElem?_toArray, List.getElem?_cons_zero, List.getElem?_cons_succ]
              simp -dsimp -implicitDefEqProofs (disch := omega) only [↓gpre, ↓bldS, ↓bld, ↓reduceIte, ↓gmore, gpost, gall, keepT, den, del, upd, dels, refs, hasTy, sArgs, aRefs, rvs, nodupB, memB, app, pTm, Ty.bytes, kbytes, Ty.zeroD, Ty.size, Ty.cmp, Ty.depth, Go.SE.look, reduceCtorEq, Nat.reduceAdd, Nat.reduceSub, Nat.reduceMul, Nat.reduceEqDiff, Nat.reduceLT, Nat.reduceLeDiff, Nat.reduceMod, Nat.reduceDiv, Nat.reducePow, Nat.reduceBEq, Int.reduceToNat, Int.reduceLE, Int.reduceLT, Int.reduceEq, Int.reduceAdd, Int.reduceMul, Int.reduceSub, Int.reduceNeg, Int.reduceNe, Tryd.TS, Tryd.ev_g0, Tryd.ev1_g0, Tryd.ev_g1, Tryd.ev1_g1, td64, tm64, u256_at _ hk4, u256_list, hset]
              repeat (refine And.intro (by omega) ?_)
              refine ⟨(k, 2 * Q + 1, 2 * r + lo / 2 ^ k % 2 - b), hI.more hge, Nat.lt_succ_self k, ?_⟩
              refine sub_ren w0 [(0, 0), (1, 1), (2, 2), (3, 3), (4, 4)] rfl (by simp [keysLt]) rfl ?_ ?_
              · simp [renTm, Go.SE.look, renTV, renSV]
              · simp [renOb, Go.SE.look, renSV, hqe]
            · simp -dsimp -implicitDefEqProofs (disch := omega) only [↓gpre, ↓bldS, ↓bld, ↓reduceIte, ↓gmore, gpost, gall, keepT, den, del, upd, dels, refs, hasTy, sArgs, aRefs, rvs, nodupB, memB, app, pTm, Ty.bytes, kbytes, Ty.zeroD, Ty.size, Ty.cmp, Ty.depth, Go.SE.look, reduceCtorEq, Nat.reduceAdd, Nat.reduceSub, Nat.reduceMul, Nat.reduceEqDiff, Nat.reduceLT, Nat.reduceLeDiff, Nat.reduceMod, Nat.reduceDiv, Nat.reducePow, Nat.reduceBEq, Int.reduceToNat, Int.reduceLE, Int.reduceLT, Int.reduceEq, Int.reduceAdd, Int.reduceMul, Int.reduceSub, Int.reduceNeg, Int.reduceNe, Tryd.TS, Tryd.ev_g0, Tryd.ev1_g0, Tryd.ev_g1, Tryd.ev1_g1]
              refine ⟨m, ⟨by omega, fun _ => limb_eq hj (by omega)⟩, Nat.lt_succ_self m, ?_⟩
              refine sub_ren w0 [(0, 0), (1, 1), (2, 2), (3, 3), (4, 4)] rfl (by simp [keysLt]) rfl ?_ ?_
              · simp [renTm, Go.SE.look, renTV, renSV]
              · simp [renOb, Go.SE.look, renSV]
        · have hge : b ≤ 2 * r + lo / 2 ^ k % 2 := by omega
          subst hV
          simp -dsimp -implicitDefEqProofs (disch := omega) only [↓gpre, ↓bldS, ↓bld, ↓reduceIte, ↓gmore, gpost, gall, keepT, den, del, upd, dels, refs, hasTy, sArgs, aRefs, rvs, nodupB, memB, app, pTm, Ty.bytes, kbytes, Ty.zeroD, Ty.size, Ty.cmp, Ty.depth, Go.SE.look, reduceCtorEq, Nat.reduceAdd, Nat.reduceSub, Nat.reduceMul, Nat.reduceEqDiff, Nat.reduceLT, Nat.reduceLeDiff, Nat.reduceMod, Nat.reduceDiv, Nat.reducePow, Nat.reduceBEq, Int.reduceToNat, Int.reduceLE, Int.reduceLT, Int.reduceEq, Int.reduceAdd, Int.reduceMul, Int.reduceSub, Int.reduceNeg, Int.reduceNe, Tryd.TS, Tryd.ev_g0, Tryd.ev1_g0, Tryd.ev_g1, Tryd.ev1_g1]
          refine SCall.mono (wsub ((2 * r + lo / 2 ^ k % 2) % 115792089237316195423570985008687907853269984665640564039457584007913129639936) b (Nat.mod_lt _ (by omega)) hb) ?_; rintro rs rfl
          rw [show ((2 * r + lo / 2 ^ k % 2) % 115792089237316195423570985008687907853269984665640564039457584007913129639936 + 115792089237316195423570985008687907853269984665640564039457584007913129639936 - b) % 115792089237316195423570985008687907853269984665640564039457584007913129639936 = 2 * r + lo / 2 ^ k % 2 - b by omega]
          simp -dsimp -implicitDefEqProofs (disch := omega) only [↓gpre, ↓bldS, ↓bld, ↓reduceIte, ↓gmore, gpost, gall, keepT, den, del, upd, dels, refs, hasTy, sArgs, aRefs, rvs, nodupB, memB, app, pTm, Ty.bytes, kbytes, Ty.zeroD, Ty.size, Ty.cmp, Ty.depth, Go.SE.look, reduceCtorEq, Nat.reduceAdd, Nat.reduceSub, Nat.reduceMul, Nat.reduceEqDiff, Nat.reduceLT, Nat.reduceLeDiff, Nat.reduceMod, Nat.reduceDiv, Nat.reducePow, Nat.reduceBEq, Int.reduceToNat, Int.reduceLE, Int.reduceLT, Int.reduceEq, Int.reduceAdd, Int.reduceMul, Int.reduceSub, Int.reduceNeg, Int.reduceNe, Tryd.TS, Tryd.ev_g0, Tryd.ev1_g0, Tryd.ev_g1, Tryd.ev1_g1]
          refine sdraw Tryd.hT (by kernel_rfl) [9] [0, 1, 2, 3, 4, 5, 6, 7, 8, 9] (by kernel_rfl) (by kernel_rfl) (by kernel_rfl) ?_; simp only [pickO, List.getElem?_toArray, List.getElem?_cons_zero, List.getElem?_cons_succ]
          simp -dsimp -implicitDefEqProofs (disch := omega) only [↓gpre, ↓bldS, ↓bld, ↓reduceIte, ↓gmore, gpost, gall, keepT, den, del, upd, dels, refs, hasTy, sArgs, aRefs, rvs, nodupB, memB, app, pTm, Ty.bytes, kbytes, Ty.zeroD, Ty.size, Ty.cmp, Ty.depth, Go.SE.look, reduceCtorEq, Nat.reduceAdd, Nat.reduceSub, Nat.reduceMul, Nat.reduceEqDiff, Nat.reduceLT, Nat.reduceLeDiff, Nat.reduceMod, Nat.reduceDiv, Nat.reducePow, Nat.reduceBEq, Int.reduceToNat, Int.reduceLE, Int.reduceLT, Int.reduceEq, Int.reduceAdd, Int.reduceMul, Int.reduceSub, Int.reduceNeg, Int.reduceNe, Tryd.TS, Tryd.ev_g0, Tryd.ev1_g0, Tryd.ev_g1, Tryd.ev1_g1, td64, tm64, u256_at _ hk4, u256_list, hset]
          repeat (refine And.intro (by omega) ?_)
          refine ⟨(k, 2 * Q + 1, 2 * r + lo / 2 ^ k % 2 - b), hI.more hge, Nat.lt_succ_self k, ?_⟩
          refine sub_ren w0 [(0, 0), (1, 1), (2, 2), (3, 3), (4, 4)] rfl (by simp [keysLt]) rfl ?_ ?_
          · simp [renTm, Go.SE.look, renTV, renSV]
          · simp [renOb, Go.SE.look, renSV, hqe]
      · have hj00 : j = 0 := by omega
        subst hj00
        have hge : b ≤ 2 * r + lo / 2 ^ k % 2 := by
          by_cases ht : top = 0
          · have := hj ht
            simp only [Nat.mul_zero, Nat.pow_zero, Nat.div_one] at this
            omega
          · omega
        subst hV
        simp -dsimp -implicitDefEqProofs (disch := omega) only [↓gpre, ↓bldS, ↓bld, ↓reduceIte, ↓gmore, gpost, gall, keepT, den, del, upd, dels, refs, hasTy, sArgs, aRefs, rvs, nodupB, memB, app, pTm, Ty.bytes, kbytes, Ty.zeroD, Ty.size, Ty.cmp, Ty.depth, Go.SE.look, reduceCtorEq, Nat.reduceAdd, Nat.reduceSub, Nat.reduceMul, Nat.reduceEqDiff, Nat.reduceLT, Nat.reduceLeDiff, Nat.reduceMod, Nat.reduceDiv, Nat.reducePow, Nat.reduceBEq, Int.reduceToNat, Int.reduceLE, Int.reduceLT, Int.reduceEq, Int.reduceAdd, Int.reduceMul, Int.reduceSub, Int.reduceNeg, Int.reduceNe, Tryd.TS, Tryd.ev_g0, Tryd.ev1_g0, Tryd.ev_g1, Tryd.ev1_g1]
        refine SCall.mono (wsub ((2 * r + lo / 2 ^ k % 2) % 115792089237316195423570985008687907853269984665640564039457584007913129639936) b (Nat.mod_lt _ (by omega)) hb) ?_; rintro rs rfl
        rw [show ((2 * r + lo / 2 ^ k % 2) % 115792089237316195423570985008687907853269984665640564039457584007913129639936 + 115792089237316195423570985008687907853269984665640564039457584007913129639936 - b) % 115792089237316195423570985008687907853269984665640564039457584007913129639936 = 2 * r + lo / 2 ^ k % 2 - b by omega]
        simp -dsimp -implicitDefEqProofs (disch := omega) only [↓gpre, ↓bldS, ↓bld, ↓reduceIte, ↓gmore, gpost, gall, keepT, den, del, upd, dels, refs, hasTy, sArgs, aRefs, rvs, nodupB, memB, app, pTm, Ty.bytes, kbytes, Ty.zeroD, Ty.size, Ty.cmp, Ty.depth, Go.SE.look, reduceCtorEq, Nat.reduceAdd, Nat.reduceSub, Nat.reduceMul, Nat.reduceEqDiff, Nat.reduceLT, Nat.reduceLeDiff, Nat.reduceMod, Nat.reduceDiv, Nat.reducePow, Nat.reduceBEq, Int.reduceToNat, Int.reduceLE, Int.reduceLT, Int.reduceEq, Int.reduceAdd, Int.reduceMul, Int.reduceSub, Int.reduceNeg, Int.reduceNe, Tryd.TS, Tryd.ev_g0, Tryd.ev1_g0, Tryd.ev_g1, Tryd.ev1_g1]
        refine sdraw Tryd.hT (by kernel_rfl) [9] [0, 1, 2, 3, 4, 5, 6, 7, 8, 9] (by kernel_rfl) (by kernel_rfl) (by kernel_rfl) ?_; simp only [pickO, List.getElem?_toArray, List.getElem?_cons_zero, List.getElem?_cons_succ]
        simp -dsimp -implicitDefEqProofs (disch := omega) only [↓gpre, ↓bldS, ↓bld, ↓reduceIte, ↓gmore, gpost, gall, keepT, den, del, upd, dels, refs, hasTy, sArgs, aRefs, rvs, nodupB, memB, app, pTm, Ty.bytes, kbytes, Ty.zeroD, Ty.size, Ty.cmp, Ty.depth, Go.SE.look, reduceCtorEq, Nat.reduceAdd, Nat.reduceSub, Nat.reduceMul, Nat.reduceEqDiff, Nat.reduceLT, Nat.reduceLeDiff, Nat.reduceMod, Nat.reduceDiv, Nat.reducePow, Nat.reduceBEq, Int.reduceToNat, Int.reduceLE, Int.reduceLT, Int.reduceEq, Int.reduceAdd, Int.reduceMul, Int.reduceSub, Int.reduceNeg, Int.reduceNe, Tryd.TS, Tryd.ev_g0, Tryd.ev1_g0, Tryd.ev_g1, Tryd.ev1_g1, td64, tm64, u256_at _ hk4, u256_list, hset]
        repeat (refine And.intro (by omega) ?_)
        refine ⟨(k, 2 * Q + 1, 2 * r + lo / 2 ^ k % 2 - b), hI.more hge, Nat.lt_succ_self k, ?_⟩
        refine sub_ren w0 [(0, 0), (1, 1), (2, 2), (3, 3), (4, 4)] rfl (by simp [keysLt]) rfl ?_ ?_
        · simp [renTm, Go.SE.look, renTV, renSV]
        · simp [renOb, Go.SE.look, renSV, hqe]
    · have : i = 0 := by omega
      subst this
      obtain ⟨rfl, rfl⟩ := hI.done
      simp -dsimp -implicitDefEqProofs (disch := omega) only [↓gpre, ↓bldS, ↓bld, ↓reduceIte, ↓gmore, gpost, gall, keepT, den, del, upd, dels, refs, hasTy, sArgs, aRefs, rvs, nodupB, memB, app, pTm, Ty.bytes, kbytes, Ty.zeroD, Ty.size, Ty.cmp, Ty.depth, Go.SE.look, reduceCtorEq, Nat.reduceAdd, Nat.reduceSub, Nat.reduceMul, Nat.reduceEqDiff, Nat.reduceLT, Nat.reduceLeDiff, Nat.reduceMod, Nat.reduceDiv, Nat.reducePow, Nat.reduceBEq, Int.reduceToNat, Int.reduceLE, Int.reduceLT, Int.reduceEq, Int.reduceAdd, Int.reduceMul, Int.reduceSub, Int.reduceNeg, Int.reduceNe, Tryd.TS, Tryd.ev_g0, Tryd.ev1_g0, Tryd.ev_g1, Tryd.ev1_g1]
      refine sdrawT Tryd.hT (by kernel_rfl) (.alt 0 (.alt 1 (.alt 2 (.alt 3 (.alt 4 .nil .nil) .nil) .nil) (.alt 2 (.alt 1 (.alt 3 (.alt 4 .nil .nil) .nil) .nil) .nil)) (.alt 1 (.alt 0 (.alt 2 (.alt 3 (.alt 4 .nil .nil) .nil) .nil) .nil) .nil)) (by kernel_rfl) ?_; simp only [tr_alt, tr_nil, tr_nil', pickO, List.getElem?_toArray, List.getElem?_cons_zero, List.getElem?_cons_succ]
      simp -dsimp -implicitDefEqProofs (disch := omega) only [↓gpre, ↓bldS, ↓bld, ↓reduceIte, ↓gmore, gpost, gall, keepT, den, del, upd, dels, refs, hasTy, sArgs, aRefs, rvs, nodupB, memB, app, pTm, Ty.bytes, kbytes, Ty.zeroD, Ty.size, Ty.cmp, Ty.depth, Go.SE.look, reduceCtorEq, Nat.reduceAdd, Nat.reduceSub, Nat.reduceMul, Nat.reduceEqDiff, Nat.reduceLT, Nat.reduceLeDiff, Nat.reduceMod, Nat.reduceDiv, Nat.reducePow, Nat.reduceBEq, Int.reduceToNat, Int.reduceLE, Int.reduceLT, Int.reduceEq, Int.reduceAdd, Int.reduceMul, Int.reduceSub, Int.reduceNeg, Int.reduceNe, Tryd.TS, Tryd.ev_g0, Tryd.ev1_g0, Tryd.ev_g1, Tryd.ev1_g1]
      rw [show 2 ^ 0 * ((hi * 115792089237316195423570985008687907853269984665640564039457584007913129639936 + lo) / b) = (hi * 115792089237316195423570985008687907853269984665640564039457584007913129639936 + lo) / b by omega]
      simp only [and_self]
  · simp -dsimp -implicitDefEqProofs (disch := omega) only [↓gpre, ↓bldS, ↓bld, ↓reduceIte, ↓gmore, gpost, gall, keepT, den, del, upd, dels, refs, hasTy, sArgs, aRefs, rvs, nodupB, memB, app, pTm, Ty.bytes, kbytes, Ty.zeroD, Ty.size, Ty.cmp, Ty.depth, Go.SE.look, reduceCtorEq, Nat.reduceAdd, Nat.reduceSub, Nat.reduceMul, Nat.reduceEqDiff, Nat.reduceLT, Nat.reduceLeDiff, Nat.reduceMod, Nat.reduceDiv, Nat.reducePow, Nat.reduceBEq, Int.reduceToNat, Int.reduceLE, Int.reduceLT, Int.reduceEq, Int.reduceAdd, Int.reduceMul, Int.reduceSub, Int.reduceNeg, Int.reduceNe, Tryd.TS, Tryd.ev_g0, Tryd.ev1_g0, Tryd.ev_g1, Tryd.ev1_g1]
    refine sloop Tryd.hT (α := Nat × Nat × Nat) (fun x => ⟨85, [(9, .v (.d (.int .i64) (.n ((x.1 : Int) - 1)))), (3, .v (.ptr 0 [])), (4, .v (.ptr 1 [])), (5, .v (.ptr 2 [])), (6, .v (.ptr 3 [])), (7, .v (.ptr 4 []))], [(0, ⟨.arr 4 (.int .u64), .d (.arr 4 (.int .u64)) (u256 hi)⟩), (1, ⟨.arr 4 (.int .u64), .d (.arr 4 (.int .u64)) (u256 lo)⟩), (2, ⟨.arr 4 (.int .u64), .d (.arr 4 (.int .u64)) (u256 b)⟩), (3, ⟨.arr 4 (.int .u64), .d (.arr 4 (.int .u64)) (u256 (2 ^ x.1 * x.2.1))⟩), (4, ⟨.arr 4 (.int .u64), .d (.arr 4 (.int .u64)) (u256 x.2.2)⟩)], 5⟩) (fun x => DivI hi lo b x.1 x.2.1 x.2.2) (fun x => x.1) (256, 0, hi) ?_ ⟨Nat.le_refl _, by simp only [Nat.sub_self, Nat.pow_zero, Nat.mul_one, Nat.zero_mul, Nat.zero_add]; rw [show (2 : Nat) ^ 256 = 115792089237316195423570985008687907853269984665640564039457584007913129639936 from rfl, Nat.div_eq_of_lt hlo]; rfl, hhi⟩ ?_
    · refine sub_ren w0 [(0, 0), (1, 1), (2, 2), (3, 3), (4, 4)] rfl (by simp [keysLt]) rfl ?_ ?_
      · simp [renTm, Go.SE.look, renTV, renSV]
      · simp [renOb, Go.SE.look, renSV, u256_zero]
    rintro ⟨i, Q, r⟩ hI
    simp only at hI
    have hr := hI.lt
    have hq := hI.q_lt hhi hlo
    have hile := hI.le
    simp -dsimp -implicitDefEqProofs (disch := omega) only [↓gpre, ↓bldS, ↓bld, ↓reduceIte, ↓gmore, gpost, gall, keepT, den, del, upd, dels, refs, hasTy, sArgs, aRefs, rvs, nodupB, memB, app, pTm, Ty.bytes, kbytes, Ty.zeroD, Ty.size, Ty.cmp, Ty.depth, Go.SE.look, reduceCtorEq, Nat.reduceAdd, Nat.reduceSub, Nat.reduceMul, Nat.reduceEqDiff, Nat.reduceLT, Nat.reduceLeDiff, Nat.reduceMod, Nat.reduceDiv, Nat.reducePow, Nat.reduceBEq, Int.reduceToNat, Int.reduceLE, Int.reduceLT, Int.reduceEq, Int.reduceAdd, Int.reduceMul, Int.reduceSub, Int.reduceNeg, Int.reduceNe, Tryd.TS, Tryd.ev_g0, Tryd.ev1_g0, Tryd.ev_g1, Tryd.ev1_g1]
    refine HIf_dec (a := ()) (b := ()) (fun h => ?_) (fun h => ?_)
    · obtain ⟨k, rfl⟩ : ∃ k, i = k + 1 := ⟨i - 1, by omega⟩
      rw [show (((k + 1 : Nat) : Int) - 1) = (k : Int) by omega]
      have hk4 : k / 64 < 4 := by omega
      have hclear : 2 ^ (k + 1) * Q / 2 ^ k % 2 = 0 := by
        rw [Nat.pow_succ, Nat.mul_assoc, Nat.mul_div_cancel_left _ (Nat.two_pow_pos k)]; omega
      have hset := u256_set hq (show k < 256 by omega) hclear
      have hqe : 2 ^ (k + 1) * Q + 2 ^ k = 2 ^ k * (2 * Q + 1) := by rw [Nat.mul_add, Nat.mul_one, Nat.pow_succ, Nat.mul_assoc]
      have hqe2 : 2 ^ (k + 1) * Q = 2 ^ k * (2 * Q) := by rw [Nat.pow_succ, Nat.mul_assoc]
      have hbit2 : lo / 2 ^ k % 2 < 2 := Nat.mod_lt _ (by omega)
      simp -dsimp -implicitDefEqProofs (disch := omega) only [↓gpre, ↓bldS, ↓bld, ↓reduceIte, ↓gmore, gpost, gall, keepT, den, del, upd, dels, refs, hasTy, sArgs, aRefs, rvs, nodupB, memB, app, pTm, Ty.bytes, kbytes, Ty.zeroD, Ty.size, Ty.cmp, Ty.depth, Go.SE.look, reduceCtorEq, Nat.reduceAdd, Nat.reduceSub, Nat.reduceMul, Nat.reduceEqDiff, Nat.reduceLT, Nat.reduceLeDiff, Nat.reduceMod, Nat.reduceDiv, Nat.reducePow, Nat.reduceBEq, Int.reduceToNat, Int.reduceLE, Int.reduceLT, Int.reduceEq, Int.reduceAdd, Int.reduceMul, Int.reduceSub, Int.reduceNeg, Int.reduceNe, Tryd.TS, Tryd.ev_g0, Tryd.ev1_g0, Tryd.ev_g1, Tryd.ev1_g1, u256_at3, u256_list, sr63]
      refine SCall.mono (wshl1 r (by omega)) ?_; rintro rs rfl
      simp -dsimp -implicitDefEqProofs (disch := omega) only [↓gpre, ↓bldS, ↓bld, ↓reduceIte, ↓gmore, gpost, gall, keepT, den, del, upd, dels, refs, hasTy, sArgs, aRefs, rvs, nodupB, memB, app, pTm, Ty.bytes, kbytes, Ty.zeroD, Ty.size, Ty.cmp, Ty.depth, Go.SE.look, reduceCtorEq, Nat.reduceAdd, Nat.reduceSub, Nat.reduceMul, Nat.reduceEqDiff, Nat.reduceLT, Nat.reduceLeDiff, Nat.reduceMod, Nat.reduceDiv, Nat.reducePow, Nat.reduceBEq, Int.reduceToNat, Int.reduceLE, Int.reduceLT, Int.reduceEq, Int.reduceAdd, Int.reduceMul, Int.reduceSub, Int.reduceNeg, Int.reduceNe, Tryd.TS, Tryd.ev_g0, Tryd.ev1_g0, Tryd.ev_g1, Tryd.ev1_g1]
      refine sdraw Tryd.hT (by kernel_rfl) [12] [0, 1, 2, 3, 4, 5, 6, 7, 8, 9, 10, 11, 12] (by kernel_rfl) (by kernel_rfl) (by kernel_rfl) ?_; simp only [pickO, List.getElem?_toArray, List.getElem?_cons_zero, List.getElem?_cons_succ]
      simp -dsimp -implicitDefEqProofs (disch := omega) only [↓gpre, ↓bldS, ↓bld, ↓reduceIte, ↓gmore, gpost, gall, keepT, den, del, upd, dels, refs, hasTy, sArgs, aRefs, rvs, nodupB, memB, app, pTm, Ty.bytes, kbytes, Ty.zeroD, Ty.size, Ty.cmp, Ty.depth, Go.SE.look, reduceCtorEq, Nat.reduceAdd, Nat.reduceSub, Nat.reduceMul, Nat.reduceEqDiff, Nat.reduceLT, Nat.reduceLeDiff, Nat.reduceMod, Nat.reduceDiv, Nat.reducePow, Nat.reduceBEq, Int.reduceToNat, Int.reduceLE, Int.reduceLT, Int.reduceEq, Int.reduceAdd, Int.reduceMul, Int.reduceSub, Int.reduceNeg, Int.reduceNe, Tryd.TS, Tryd.ev_g0, Tryd.ev1_g0, Tryd.ev_g1, Tryd.ev1_g1, td64, tm64, u256_at0, u256_at _ hk4, u256_list, shrN (show k % 64 ≤ 64 by omega), and_one (limb_lt _ _ _), limb_bit]
      repeat (refine And.intro (by omega) ?_)
      rw [u256_or0 (n := 2 * r % 115792089237316195423570985008687907853269984665640564039457584007913129639936) (Nat.mod_lt _ (by omega)) (by omega) hbit2, show 2 * r % 115792089237316195423570985008687907853269984665640564039457584007913129639936 + lo / 2 ^ k % 2 = (2 * r + lo / 2 ^ k % 2) % 115792089237316195423570985008687907853269984665640564039457584007913129639936 by omega]
      have hVM : (2 * r + lo / 2 ^ k % 2) % 115792089237316195423570985008687907853269984665640564039457584007913129639936 < 115792089237316195423570985008687907853269984665640564039457584007913129639936 := Nat.mod_lt _ (by omega)
      generalize hV : (2 * r + lo / 2 ^ k % 2) % 115792089237316195423570985008687907853269984665640564039457584007913129639936 = V at hVM
      generalize htop : r / 6277101735386680763835789423207666416102355444464034512896 % 18446744073709551616 / 9223372036854775808 = top
      refine sloop Tryd.hT (α := Nat) (fun j => ⟨85, [(11, .v (.d (.int .i64) (.n ((j : Int) - 1)))), (10, .v (.d (.int .u64) (.n top))), (9, .v (.d (.int .i64) (.n k))), (3, .v (.ptr 0 [])), (4, .v (.ptr 1 [])), (5, .v (.ptr 2 [])), (6, .v (.ptr 3 [])), (7, .v (.ptr 4 []))], [(0, ⟨.arr 4 (.int .u64), .d (.arr 4 (.int .u64)) (u256 hi)⟩), (1, ⟨.arr 4 (.int .u64), .d (.arr 4 (.int .u64)) (u256 lo)⟩), (2, ⟨.arr 4 (.int .u64), .d (.arr 4 (.int .u64)) (u256 b)⟩), (3, ⟨.arr 4 (.int .u64), .d (.arr 4 (.int .u64)) (u256 (2 ^ (k + 1) * Q))⟩), (4, ⟨.arr 4 (.int .u64), .d (.arr 4 (.int .u64)) (u256 V)⟩)], 5⟩) (fun j => j ≤ 4 ∧ (top = 0 → V / 2 ^ (64 * j) = b / 2 ^ (64 * j))) (fun j => j) 4 ?_ ⟨Nat.le_refl _, fun _ => by rw [Nat.div_eq_of_lt (show V < 2 ^ (64 * 4) from hVM), Nat.div_eq_of_lt (show b < 2 ^ (64 * 4) from hb)]⟩ ?_
      · refine sub_ren w0 [(0, 0), (1, 1), (2, 2), (3, 3), (4, 4)] rfl (by simp [keysLt]) rfl ?_ ?_
        · simp [renTm, Go.SE.look, renTV, renSV]
        · simp [renOb, Go.SE.look, renSV]
      rintro j ⟨hj4, hj⟩
      simp -dsimp -implicitDefEqProofs (disch := omega) only [↓gpre, ↓bldS, ↓bld, ↓reduceIte, ↓gmore, gpost, gall, keepT, den, del, upd, dels, refs, hasTy, sArgs, aRefs, rvs, nodupB, memB, app, pTm, Ty.bytes, kbytes, Ty.zeroD, Ty.size, Ty.cmp, Ty.depth, Go.SE.look, reduceCtorEq, Nat.reduceAdd, Nat.reduceSub, Nat.reduceMul, Nat.reduceEqDiff, Nat.reduceLT, Nat.reduceLeDiff, Nat.reduceMod, Nat.reduceDiv, Nat.reducePow, Nat.reduceBEq, Int.reduceToNat, Int.reduceLE, Int.reduceLT, Int.reduceEq, Int.reduceAdd, Int.reduceMul, Int.reduceSub, Int.reduceNeg, Int.reduceNe, Tryd.TS, Tryd.ev_g0, Tryd.ev1_g0, Tryd.ev_g1, Tryd.ev1_g1]
      refine HIf_dec (a := ()) (b := ()) (fun hj0 => ?_) (fun hj0 => ?_)
      · obtain ⟨m, rfl⟩ : ∃ m, j = m + 1 := ⟨j - 1, by omega⟩
        rw [show (((m + 1 : Nat) : Int) - 1) = (m : Int) by omega]
        have hm4 : m < 4 := by omega
        simp -dsimp -implicitDefEqProofs (disch := omega) only [↓gpre, ↓bldS, ↓bld, ↓reduceIte, ↓gmore, gpost, gall, keepT, den, del, upd, dels, refs, hasTy, sArgs, aRefs, rvs, nodupB, memB, app, pTm, Ty.bytes, kbytes, Ty.zeroD, Ty.size, Ty.cmp, Ty.depth, Go.SE.look, reduceCtorEq, Nat.reduceAdd, Nat.reduceSub, Nat.reduceMul, Nat.reduceEqDiff, Nat.reduceLT, Nat.reduceLeDiff, Nat.reduceMod, Nat.reduceDiv, Nat.reducePow, Nat.reduceBEq, Int.reduceToNat, Int.reduceLE, Int.reduceLT, Int.reduceEq, Int.reduceAdd, Int.reduceMul, Int.reduceSub, Int.reduceNeg, Int.reduceNe, Tryd.TS, Tryd.ev_g0, Tryd.ev1_g0, Tryd.ev_g1, Tryd.ev1_g1]
        refine HIf_dec (a := ()) (b := ()) (fun ht => ?_) (fun ht => ?_)
        · have hj := hj (by omega)
          simp -dsimp -implicitDefEqProofs (disch := omega) only [↓gpre, ↓bldS, ↓bld, ↓reduceIte, ↓gmore, gpost, gall, keepT, den, del, upd, dels, refs, hasTy, sArgs, aRefs, rvs, nodupB, memB, app, pTm, Ty.bytes, kbytes, Ty.zeroD, Ty.size, Ty.cmp, Ty.depth, Go.SE.look, reduceCtorEq, Nat.reduceAdd, Nat.reduceSub, Nat.reduceMul, Nat.reduceEqDiff, Nat.reduceLT, Nat.reduceLeDiff, Nat.reduceMod, Nat.reduceDiv, Nat.reducePow, Nat.reduceBEq, Int.reduceToNat, Int.reduceLE, Int.reduceLT, Int.reduceEq, Int.reduceAdd, Int.reduceMul, Int.reduceSub, Int.reduceNeg, Int.reduceNe, Tryd.TS, Tryd.ev_g0, Tryd.ev1_g0, Tryd.ev_g1, Tryd.ev1_g1]
          refine sdraw Tryd.hT (by kernel_rfl) [] [0, 1, 2, 3, 4, 5, 6] (by kernel_rfl) (by kernel_rfl) (by kernel_rfl) ?_; simp only [pickO, List.getElem?_toArray, List.getElem?_cons_zero, List.getElem?_cons_succ]
          simp -dsimp -implicitDefEqProofs (disch := omega) only [↓gpre, ↓bldS, ↓bld, ↓reduceIte, ↓gmore, gpost, gall, keepT, den, del, upd, dels, refs, hasTy, sArgs, aRefs, rvs, nodupB, memB, app, pTm, Ty.bytes, kbytes, Ty.zeroD, Ty.size, Ty.cmp, Ty.depth, Go.SE.look, reduceCtorEq, Nat.reduceAdd, Nat.reduceSub, Nat.reduceMul, Nat.reduceEqDiff, Nat.reduceLT, Nat.reduceLeDiff, Nat.reduceMod, Nat.reduceDiv, Nat.reducePow, Nat.reduceBEq, Int.reduceToNat, Int.reduceLE, Int.reduceLT, Int.reduceEq, Int.reduceAdd, Int.reduceMul, Int.reduceSub, Int.reduceNeg, Int.reduceNe, Tryd.TS, Tryd.ev_g0, Tryd.ev1_g0, Tryd.ev_g1, Tryd.ev1_g1, u256_at _ hm4, u256_list]
          repeat (refine And.intro (by omega) ?_)
          refine HIf_dec (a := ()) (b := ()) (fun hl => ?_) (fun hl => ?_)
          · have hlt := limb_less hj (by omega)
            simp -dsimp -implicitDefEqProofs (disch := omega) only [↓gpre, ↓bldS, ↓bld, ↓reduceIte, ↓gmore, gpost, gall, keepT, den, del, upd, dels, refs, hasTy, sArgs, aRefs, rvs, nodupB, memB, app, pTm, Ty.bytes, kbytes, Ty.zeroD, Ty.size, Ty.cmp, Ty.depth, Go.SE.look, reduceCtorEq, Nat.reduceAdd, Nat.reduceSub, Nat.reduceMul, Nat.reduceEqDiff, Nat.reduceLT, Nat.reduceLeDiff, Nat.reduceMod, Nat.reduceDiv, Nat.reducePow, Nat.reduceBEq, Int.reduceToNat, Int.reduceLE, Int.reduceLT, Int.reduceEq, Int.reduceAdd, Int.reduceMul, Int.reduceSub, Int.reduceNeg, Int.reduceNe, Tryd.TS, Tryd.ev_g0, Tryd.ev1_g0, Tryd.ev_g1, Tryd.ev1_g1]
            refine ⟨(k, 2 * Q, 2 * r + lo / 2 ^ k % 2), hI.less (by omega), Nat.lt_succ_self k, ?_⟩
            refine sub_ren w0 [(0, 0), (1, 1), (2, 2), (3, 3), (4, 4)] rfl (by simp [keysLt]) rfl ?_ ?_
            · simp [renTm, Go.SE.look, renTV, renSV]
            · simp [renOb, Go.SE.look, renSV, hqe2]; congr 1; omega
          · simp -dsimp -implicitDefEqProofs (disch := omega) only [↓gpre, ↓bldS, ↓bld, ↓reduceIte, ↓gmore, gpost, gall, keepT, den, del, upd, dels, refs, hasTy, sArgs, aRefs, rvs, nodupB, memB, app, pTm, Ty.bytes, kbytes, Ty.zeroD, Ty.size, Ty.cmp, Ty.depth, Go.SE.look, reduceCtorEq, Nat.reduceAdd, Nat.reduceSub, Nat.reduceMul, Nat.reduceEqDiff, Nat.reduceLT, Nat.reduceLeDiff, Nat.reduceMod, Nat.reduceDiv, Nat.reducePow, Nat.reduceBEq, Int.reduceToNat, Int.reduceLE, Int.reduceLT, Int.reduceEq, Int.reduceAdd, Int.reduceMul, Int.reduceSub, Int.reduceNeg, Int.reduceNe, Tryd.TS, Tryd.ev_g0, Tryd.ev1_g0, Tryd.ev_g1, Tryd.ev1_g1]
            refine sdraw Tryd.hT (by kernel_rfl) [] [0, 1, 2, 3, 4, 5, 6] (by kernel_rfl) (by kernel_rfl) (by kernel_rfl) ?_; simp only [pickO, List.getElem?_toArray, List.getElem?_cons_zero, List.getElem?_cons_succ]
            simp -dsimp -implicitDefEqProofs (disch := omega) only [↓gpre, ↓bldS, ↓bld, ↓reduceIte, ↓gmore, gpost, gall, keepT, den, del, upd, dels, refs, hasTy, sArgs, aRefs, rvs, nodupB, memB, app, pTm, Ty.bytes, kbytes, Ty.zeroD, Ty.size, Ty.cmp, Ty.depth, Go.SE.look, reduceCtorEq, Nat.reduceAdd, Nat.reduceSub, Nat.reduceMul, Nat.reduceEqDiff, Nat.reduceLT, Nat.reduceLeDiff, Nat.reduceMod, Nat.reduceDiv, Nat.reducePow, Nat.reduceBEq, Int.reduceToNat, Int.reduceLE, Int.reduceLT, Int.reduceEq, Int.reduceAdd, Int.reduceMul, Int.reduceSub, Int.reduceNeg, Int.reduceNe, Tryd.TS, Tryd.ev_g0, Tryd.ev1_g0, Tryd.ev_g1, Tryd.ev1_g1, u256_at _ hm4, u256_list]
            repeat (refine And.intro (by omega) ?_)
            refine HIf_dec (a := ()) (b := ()) (fun hg => ?_) (fun hg => ?_)
            · have hgt := limb_less hj.symm (by omega)
              have hge : b ≤ 2 * r + lo / 2 ^ k % 2 := by omega
              subst hV
              simp -dsimp -implicitDefEqProofs (disch := omega) only [↓gpre, ↓bldS, ↓bld, ↓reduceIte, ↓gmore, gpost, gall, keepT, den, del, upd, dels, refs, hasTy, sArgs, aRefs, rvs, nodupB, memB, app, pTm, Ty.bytes, kbytes, Ty.zeroD, Ty.size, Ty.cmp, Ty.depth, Go.SE.look, reduceCtorEq, Nat.reduceAdd, Nat.reduceSub, Nat.reduceMul, Nat.reduceEqDiff, Nat.reduceLT, Nat.reduceLeDiff, Nat.reduceMod, Nat.reduceDiv, Nat.reducePow, Nat.reduceBEq, Int.reduceToNat, Int.reduceLE, Int.reduceLT, Int.reduceEq, Int.reduceAdd, Int.reduceMul, Int.reduceSub, Int.reduceNeg, Int.reduceNe, Tryd.TS, Tryd.ev_g0, Tryd.ev1_g0, Tryd.ev_g1, Tryd.ev1_g1]
              refine SCall.mono (wsub ((2 * r + lo / 2 ^ k % 2) % 115792089237316195423570985008687907853269984665640564039457584007913129639936) b (Nat.mod_lt _ (by omega)) hb) ?_; rintro rs rfl
              rw [show ((2 * r + lo / 2 ^ k % 2) % 115792089237316195423570985008687907853269984665640564039457584007913129639936 + 115792089237316195423570985008687907853269984665640564039457584007913129639936 - b) % 115792089237316195423570985008687907853269984665640564039457584007913129639936 = 2 * r + lo / 2 ^ k % 2 - b by omega]
              simp -dsimp -implicitDefEqProofs (disch := omega) only [↓gpre, ↓bldS, ↓bld, ↓reduceIte, ↓gmore, gpost, gall, keepT, den, del, upd, dels, refs, hasTy, sArgs, aRefs, rvs, nodupB, memB, app, pTm, Ty.bytes, kbytes, Ty.zeroD, Ty.size, Ty.cmp, Ty.depth, Go.SE.look, reduceCtorEq, Nat.reduceAdd, Nat.reduceSub, Nat.reduceMul, Nat.reduceEqDiff, Nat.reduceLT, Nat.reduceLeDiff, Nat.reduceMod, Nat.reduceDiv, Nat.reducePow, Nat.reduceBEq, Int.reduceToNat, Int.reduceLE, Int.reduceLT, Int.reduceEq, Int.reduceAdd, Int.reduceMul, Int.reduceSub, Int.reduceNeg, Int.reduceNe, Tryd.TS, Tryd.ev_g0, Tryd.ev1_g0, Tryd.ev_g1, Tryd.ev1_g1]
              refine sdraw Tryd.hT (by kernel_rfl) [9] [0, 1, 2, 3, 4, 5, 6, 7, 8, 9] (by kernel_rfl) (by kernel_rfl) (by kernel_rfl) ?_; simp only [pickO, List.getElem?_toArray, List.getElem?_cons_zero, List.getElem?_cons_succ]
              simp -dsimp -implicitDefEqProofs (disch := omega) only [↓gpre, ↓bldS, ↓bld, ↓reduceIte, ↓gmore, gpost, gall, keepT, den, del, upd, dels, refs, hasTy, sArgs, aRefs, rvs, nodupB, memB, app, pTm, Ty.bytes, kbytes, Ty.zeroD, Ty.size, Ty.cmp, Ty.depth, Go.SE.look, reduceCtorEq, Nat.reduceAdd, Nat.reduceSub, Nat.reduceMul, Nat.reduceEqDiff, Nat.reduceLT, Nat.reduceLeDiff, Nat.reduceMod, Nat.reduceDiv, Nat.reducePow, Nat.reduceBEq, Int.reduceToNat, Int.reduceLE, Int.reduceLT, Int.reduceEq, Int.reduceAdd, Int.reduceMul, Int.reduceSub, Int.reduceNeg, Int.reduceNe, Tryd.TS, Tryd.ev_g0, Tryd.ev1_g0, Tryd.ev_g1, Tryd.ev1_g1, td64, tm64, u256_at _ hk4, u256_list, hset]
              repeat (refine And.intro (by omega) ?_)
              refine ⟨(k, 2 * Q + 1, 2 * r + lo / 2 ^ k % 2 - b), hI.more hge, Nat.lt_succ_self k, ?_⟩
              refine sub_ren w0 [(0, 0), (1, 1), (2, 2), (3, 3), (4, 4)] rfl (by simp [keysLt]) rfl ?_ ?_
              · simp [renTm, Go.SE.look, renTV, renSV]
              · simp [renOb, Go.SE.look, renSV, hqe]
            · simp -dsimp -implicitDefEqProofs (disch := omega) only [↓gpre, ↓bldS, ↓bld, ↓reduceIte, ↓gmore, gpost, gall, keepT, den, del, upd, dels, refs, hasTy, sArgs, aRefs, rvs, nodupB, memB, app, pTm, Ty.bytes, kbytes, Ty.zeroD, Ty.size, Ty.cmp, Ty.depth, Go.SE.look, reduceCtorEq, Nat.reduceAdd, Nat.reduceSub, Nat.reduceMul, Nat.reduceEqDiff, Nat.reduceLT, Nat.reduceLeDiff, Nat.reduceMod, Nat.reduceDiv, Nat.reducePow, Nat.reduceBEq, Int.reduceToNat, Int.reduceLE, Int.reduceLT, Int.reduceEq, Int.reduceAdd, Int.reduceMul, Int.reduceSub, Int.reduceNeg, Int.reduceNe, Tryd.TS, Tryd.ev_g0, Tryd.ev1_g0, Tryd.ev_g1, Tryd.ev1_g1]
              refine ⟨m, ⟨by omega, fun _ => limb_eq hj (by omega)⟩, Nat.lt_succ_self m, ?_⟩
              refine sub_ren w0 [(0, 0), (1, 1), (2, 2), (3, 3), (4, 4)] rfl (by simp [keysLt]) rfl ?_ ?_
              · simp [renTm, Go.SE.look, renTV, renSV]
              · simp [renOb, Go.SE.look, renSV]
        · have hge : b ≤ 2 * r + lo / 2 ^ k % 2 := by omega
          subst hV
          simp -dsimp -implicitDefEqProofs (disch := omega) only [↓gpre, ↓bldS, ↓bld, ↓reduceIte, ↓gmore, gpost, gall, keepT, den, del, upd, dels, refs, hasTy, sArgs, aRefs, rvs, nodupB, memB, app, pTm, Ty.bytes, kbytes, Ty.zeroD, Ty.size, Ty.cmp, Ty.depth, Go.SE.look, reduceCtorEq, Nat.reduceAdd, Nat.reduceSub, Nat.reduceMul, Nat.reduceEqDiff, Nat.reduceLT, Nat.reduceLeDiff, Nat.reduceMod, Nat.reduceDiv, Nat.reducePow, Nat.reduceBEq, Int.reduceToNat, Int.reduceLE, Int.reduceLT, Int.reduceEq, Int.reduceAdd, Int.reduceMul, Int.reduceSub, Int.reduceNeg, Int.reduceNe, Tryd.TS, Tryd.ev_g0, Tryd.ev1_g0, Tryd.ev_g1, Tryd.ev1_g1]
          refine SCall.mono (wsub ((2 * r + lo / 2 ^ k % 2) % 115792089237316195423570985008687907853269984665640564039457584007913129639936) b (Nat.mod_lt _ (by omega)) hb) ?_; rintro rs rfl
          rw [show ((2 * r + lo / 2 ^ k % 2) % 115792089237316195423570985008687907853269984665640564039457584007913129639936 + 115792089237316195423570985008687907853269984665640564039457584007913129639936 - b) % 115792089237316195423570985008687907853269984665640564039457584007913129639936 = 2 * r + lo / 2 ^ k % 2 - b by omega]
          simp -dsimp -implicitDefEqProofs (disch := omega) only [↓gpre, ↓bldS, ↓bld, ↓reduceIte, ↓gmore, gpost, gall, keepT, den, del, upd, dels, refs, hasTy, sArgs, aRefs, rvs, nodupB, memB, app, pTm, Ty.bytes, kbytes, Ty.zeroD, Ty.size, Ty.cmp, Ty.depth, Go.SE.look, reduceCtorEq, Nat.reduceAdd, Nat.reduceSub, Nat.reduceMul, Nat.reduceEqDiff, Nat.reduceLT, Nat.reduceLeDiff, Nat.reduceMod, Nat.reduceDiv, Nat.reducePow, Nat.reduceBEq, Int.reduceToNat, Int.reduceLE, Int.reduceLT, Int.reduceEq, Int.reduceAdd, Int.reduceMul, Int.reduceSub, Int.reduceNeg, Int.reduceNe, Tryd.TS, Tryd.ev_g0, Tryd.ev1_g0, Tryd.ev_g1, Tryd.ev1_g1]
          refine sdraw Tryd.hT (by kernel_rfl) [9] [0, 1, 2, 3, 4, 5, 6, 7, 8, 9] (by kernel_rfl) (by kernel_rfl) (by kernel_rfl) ?_; simp only [pickO, List.getElem?_toArray, List.getElem?_cons_zero, List.getElem?_cons_succ]
          simp -dsimp -implicitDefEqProofs (disch := omega) only [↓gpre, ↓bldS, ↓bld, ↓reduceIte, ↓gmore, gpost, gall, keepT, den, del, upd, dels, refs, hasTy, sArgs, aRefs, rvs, nodupB, memB, app, pTm, Ty.bytes, kbytes, Ty.zeroD, Ty.size, Ty.cmp, Ty.depth, Go.SE.look, reduceCtorEq, Nat.reduceAdd, Nat.reduceSub, Nat.reduceMul, Nat.reduceEqDiff, Nat.reduceLT, Nat.reduceLeDiff, Nat.reduceMod, Nat.reduceDiv, Nat.reducePow, Nat.reduceBEq, Int.reduceToNat, Int.reduceLE, Int.reduceLT, Int.reduceEq, Int.reduceAdd, Int.reduceMul, Int.reduceSub, Int.reduceNeg, Int.reduceNe, Tryd.TS, Tryd.ev_g0, Tryd.ev1_g0, Tryd.ev_g1, Tryd.ev1_g1, td64, tm64, u256_at _ hk4, u256_list, hset]
          repeat (refine And.intro (by omega) ?_)
          refine ⟨(k, 2 * Q + 1, 2 * r + lo / 2 ^ k % 2 - b), hI.more hge, Nat.lt_succ_self k, ?_⟩
          refine sub_ren w0 [(0, 0), (1, 1), (2, 2), (3, 3), (4, 4)] rfl (by simp [keysLt]) rfl ?_ ?_
          · simp [renTm, Go.SE.look, renTV, renSV]
          · simp [renOb, Go.SE.look, renSV, hqe]
      · have hj00 : j = 0 := by omega
        subst hj00
        have hge : b ≤ 2 * r + lo / 2 ^ k % 2 := by
          by_cases ht : top = 0
          · have := hj ht
            simp only [Nat.mul_zero, Nat.pow_zero, Nat.div_one] at this
            omega
          · omega
        subst hV
        simp -dsimp -implicitDefEqProofs (disch := omega) only [↓gpre, ↓bldS, ↓bld, ↓reduceIte, ↓gmore, gpost, gall, keepT, den, del, upd, dels, refs, hasTy, sArgs, aRefs, rvs, nodupB, memB, app, pTm, Ty.bytes, kbytes, Ty.zeroD, Ty.size, Ty.cmp, Ty.depth, Go.SE.look, reduceCtorEq, Nat.reduceAdd, Nat.reduceSub, Nat.reduceMul, Nat.reduceEqDiff, Nat.reduceLT, Nat.reduceLeDiff, Nat.reduceMod, Nat.reduceDiv, Nat.reducePow, Nat.reduceBEq, Int.reduceToNat, Int.reduceLE, Int.reduceLT, Int.reduceEq, Int.reduceAdd, Int.reduceMul, Int.reduceSub, Int.reduceNeg, Int.reduceNe, Tryd.TS, Tryd.ev_g0, Tryd.ev1_g0, Tryd.ev_g1, Tryd.ev1_g1]
        refine SCall.mono (wsub ((2 * r + lo / 2 ^ k % 2) % 115792089237316195423570985008687907853269984665640564039457584007913129639936) b (Nat.mod_lt _ (by omega)) hb) ?_; rintro rs rfl
        rw [show ((2 * r + lo / 2 ^ k % 2) % 115792089237316195423570985008687907853269984665640564039457584007913129639936 + 115792089237316195423570985008687907853269984665640564039457584007913129639936 - b) % 115792089237316195423570985008687907853269984665640564039457584007913129639936 = 2 * r + lo / 2 ^ k % 2 - b by omega]
        simp -dsimp -implicitDefEqProofs (disch := omega) only [↓gpre, ↓bldS, ↓bld, ↓reduceIte, ↓gmore, gpost, gall, keepT, den, del, upd, dels, refs, hasTy, sArgs, aRefs, rvs, nodupB, memB, app, pTm, Ty.bytes, kbytes, Ty.zeroD, Ty.size, Ty.cmp, Ty.depth, Go.SE.look, reduceCtorEq, Nat.reduceAdd, Nat.reduceSub, Nat.reduceMul, Nat.reduceEqDiff, Nat.reduceLT, Nat.reduceLeDiff, Nat.reduceMod, Nat.reduceDiv, Nat.reducePow, Nat.reduceBEq, Int.reduceToNat, Int.reduceLE, Int.reduceLT, Int.reduceEq, Int.reduceAdd, Int.reduceMul, Int.reduceSub, Int.reduceNeg, Int.reduceNe, Tryd.TS, Tryd.ev_g0, Tryd.ev1_g0, Tryd.ev_g1, Tryd.ev1_g1]
        refine sdraw Tryd.hT (by kernel_rfl) [9] [0, 1, 2, 3, 4, 5, 6, 7, 8, 9] (by kernel_rfl) (by kernel_rfl) (by kernel_rfl) ?_; simp only [pickO, List.getElem?_toArray, List.getElem?_cons_zero, List.getElem?_cons_succ]
        simp -dsimp -implicitDefEqProofs (disch := omega) only [↓gpre, ↓bldS, ↓bld, ↓reduceIte, ↓gmore, gpost, gall, keepT, den, del, upd, dels, refs, hasTy, sArgs, aRefs, rvs, nodupB, memB, app, pTm, Ty.bytes, kbytes, Ty.zeroD, Ty.size, Ty.cmp, Ty.depth, Go.SE.look, reduceCtorEq, Nat.reduceAdd, Nat.reduceSub, Nat.reduceMul, Nat.reduceEqDiff, Nat.reduceLT, Nat.reduceLeDiff, Nat.reduceMod, Nat.reduceDiv, Nat.reducePow, Nat.reduceBEq, Int.reduceToNat, Int.reduceLE, Int.reduceLT, Int.reduceEq, Int.reduceAdd, Int.reduceMul, Int.reduceSub, Int.reduceNeg, Int.reduceNe, Tryd.TS, Tryd.ev_g0, Tryd.ev1_g0, Tryd.ev_g1, Tryd.ev1_g1, td64, tm64, u256_at _ hk4, u256_list, hset]
        repeat (refine And.intro (by omega) ?_)
        refine ⟨(k, 2 * Q + 1, 2 * r + lo / 2 ^ k % 2 - b), hI.more hge, Nat.lt_succ_self k, ?_⟩
        refine sub_ren w0 [(0, 0), (1, 1), (2, 2), (3, 3), (4, 4)] rfl (by simp [keysLt]) rfl ?_ ?_
        · simp [renTm, Go.SE.look, renTV, renSV]
        · simp [renOb, Go.SE.look, renSV, hqe]
    · have : i = 0 := by omega
      subst this
      obtain ⟨rfl, rfl⟩ := hI.done
      simp -dsimp -implicitDefEqProofs (disch := omega) only [↓gpre, ↓bldS, ↓bld, ↓reduceIte, ↓gmore, gpost, gall, keepT, den, del, upd, dels, refs, hasTy, sArgs, aRefs, rvs, nodupB, memB, app, pTm, Ty.bytes, kbytes, Ty.zeroD, Ty.size, Ty.cmp, Ty.depth, Go.SE.look, reduceCtorEq, Nat.reduceAdd, Nat.reduceSub, Nat.reduceMul, Nat.reduceEqDiff, Nat.reduceLT, Nat.reduceLeDiff, Nat.reduceMod, Nat.reduceDiv, Nat.reducePow, Nat.reduceBEq, Int.reduceToNat, Int.reduceLE, Int.reduceLT, Int.reduceEq, Int.reduceAdd, Int.reduceMul, Int.reduceSub, Int.reduceNeg, Int.reduceNe, Tryd.TS, Tryd.ev_g0, Tryd.ev1_g0, Tryd.ev_g1, Tryd.ev1_g1]
      refine sdrawT Tryd.hT (by kernel_rfl) (.alt 0 (.alt 1 (.alt 2 (.alt 3 (.alt 4 .nil .nil) .nil) .nil) (.alt 2 (.alt 1 (.alt 3 (.alt 4 .nil .nil) .nil) .nil) .nil)) (.alt 1 (.alt 0 (.alt 2 (.alt 3 (.alt 4 .nil .nil) .nil) .nil) .nil) .nil)) (by kernel_rfl) ?_; simp only [tr_alt, tr_nil, tr_nil', pickO, List.getElem?_toArray, List.getElem?_cons_zero, List.getElem?_cons_succ]
      simp -dsimp -implicitDefEqProofs (disch := omega) only [↓gpre, ↓bldS, ↓bld, ↓reduceIte, ↓gmore, gpost, gall, keepT, den, del, upd, dels, refs, hasTy, sArgs, aRefs, rvs, nodupB, memB, app, pTm, Ty.bytes, kbytes, Ty.zeroD, Ty.size, Ty.cmp, Ty.depth, Go.SE.look, reduceCtorEq, Nat.reduceAdd, Nat.reduceSub, Nat.reduceMul, Nat.reduceEqDiff, Nat.reduceLT, Nat.reduceLeDiff, Nat.reduceMod, Nat.reduceDiv, Nat.reducePow, Nat.reduceBEq, Int.reduceToNat, Int.reduceLE, Int.reduceLT, Int.reduceEq, Int.reduceAdd, Int.reduceMul, Int.reduceSub, Int.reduceNeg, Int.reduceNe, Tryd.TS, Tryd.ev_g0, Tryd.ev1_g0, Tryd.ev_g1, Tryd.ev1_g1]
      rw [show 2 ^ 0 * ((hi * 115792089237316195423570985008687907853269984665640564039457584007913129639936 + lo) / b) = (hi * 115792089237316195423570985008687907853269984665640564039457584007913129639936 + lo) / b by omega]
      simp only [and_self]
end Go.Proofs
/- Numbers of 256 bits: modular sums, differences and products. -/
namespace Go.Proofs
open Go.SE

theorem addmod_ge {a b m : Nat} (h0 : 0 < m) (h : m ≤ a % m + b % m) : (a + b) % m = a % m + b % m - m := by
  have h1 := Nat.mod_lt a h0
  have h2 := Nat.mod_lt b h0
  rw [Nat.add_mod, Nat.mod_eq_sub_mod h, Nat.mod_eq_of_lt (by omega)]
theorem addmod_lt {a b m : Nat} (h : a % m + b % m < m) : (a + b) % m = a % m + b % m := by
  rw [Nat.add_mod, Nat.mod_eq_of_lt h]

set_option maxHeartbeats 1000000 in
theorem wmod (a m : Nat) (ha : a < 115792089237316195423570985008687907853269984665640564039457584007913129639936) (hm : m < 115792089237316195423570985008687907853269984665640564039457584007913129639936) (h0 : 0 < m) : SCall Tryd.prog 105 [(.arr 4 (.int .u64), u256 a), (.arr 4 (.int .u64), u256 m)] (fun rs => rs = [.d (.arr 4 (.int .u64)) (u256 (a % m))]) := by
  refine scall_intro (n := 22) (rl := [.cell 4 45]) (us := [45]) Tryd.hT Tryd.func105 rfl rfl rfl rfl rfl (Nat.le_of_ble_eq_true rfl) ?_
  intro w0
  simp -dsimp -implicitDefEqProofs (disch := omega) only [↓gpre, ↓bldS, ↓bld, ↓reduceIte, ↓gmore, gpost, gall, keepT, den, del, upd, dels, refs, hasTy, sArgs, aRefs, rvs, nodupB, memB, app, pTm, Ty.bytes, kbytes, Ty.zeroD, Ty.size, Ty.cmp, Ty.depth, Go.SE.look, reduceCtorEq, Nat.reduceAdd, Nat.reduceSub, Nat.reduceMul, Nat.reduceEqDiff, Nat.reduceLT, Nat.reduceLeDiff, Nat.reduceMod, Nat.reduceDiv, Nat.reducePow, Nat.reduceBEq, Int.reduceToNat, Int.reduceLE, Int.reduceLT, Int.reduceEq, Int.reduceAdd, Int.reduceMul, Int.reduceSub, Int.reduceNeg, Int.reduceNe, Tryd.TS, Tryd.ev_g0, Tryd.ev1_g0, Tryd.ev_g1, Tryd.ev1_g1, rep4]
  refine SCall.mono (wcmp a m ha hm) ?_; rintro rs rfl
  simp -dsimp -implicitDefEqProofs (disch := omega) only [↓gpre, ↓bldS, ↓bld, ↓reduceIte, ↓gmore, gpost, gall, keepT, den, del, upd, dels, refs, hasTy, sArgs, aRefs, rvs, nodupB, memB, app, pTm, Ty.bytes, kbytes, Ty.zeroD, Ty.size, Ty.cmp, Ty.depth, Go.SE.look, reduceCtorEq, Nat.reduceAdd, Nat.reduceSub, Nat.reduceMul, Nat.reduceEqDiff, Nat.reduceLT, Nat.reduceLeDiff, Nat.reduceMod, Nat.reduceDiv, Nat.reducePow, Nat.reduceBEq, Int.reduceToNat, Int.reduceLE, Int.reduceLT, Int.reduceEq, Int.reduceAdd, Int.reduceMul, Int.reduceSub, Int.reduceNeg, Int.reduceNe, Tryd.TS, Tryd.ev_g0, Tryd.ev1_g0, Tryd.ev_g1, Tryd.ev1_g1]
  refine HIf_dec (a := ()) (b := ()) (fun h => ?_) (fun h => ?_)
  · have hlt : a < m := by
      split at h
      · assumption
      · split at h <;> omega
    simp -dsimp -implicitDefEqProofs (disch := omega) only [↓gpre, ↓bldS, ↓bld, ↓reduceIte, ↓gmore, gpost, gall, keepT, den, del, upd, dels, refs, hasTy, sArgs, aRefs, rvs, nodupB, memB, app, pTm, Ty.bytes, kbytes, Ty.zeroD, Ty.size, Ty.cmp, Ty.depth, Go.SE.look, reduceCtorEq, Nat.reduceAdd, Nat.reduceSub, Nat.reduceMul, Nat.reduceEqDiff, Nat.reduceLT, Nat.reduceLeDiff, Nat.reduceMod, Nat.reduceDiv, Nat.reducePow, Nat.reduceBEq, Int.reduceToNat, Int.reduceLE, Int.reduceLT, Int.reduceEq, Int.reduceAdd, Int.reduceMul, Int.reduceSub, Int.reduceNeg, Int.reduceNe, Tryd.TS, Tryd.ev_g0, Tryd.ev1_g0, Tryd.ev_g1, Tryd.ev1_g1]
    rw [Nat.mod_eq_of_lt hlt]
  · simp -dsimp -implicitDefEqProofs (disch := omega) only [↓gpre, ↓bldS, ↓bld, ↓reduceIte, ↓gmore, gpost, gall, keepT, den, del, upd, dels, refs, hasTy, sArgs, aRefs, rvs, nodupB, memB, app, pTm, Ty.bytes, kbytes, Ty.zeroD, Ty.size, Ty.cmp, Ty.depth, Go.SE.look, reduceCtorEq, Nat.reduceAdd, Nat.reduceSub, Nat.reduceMul, Nat.reduceEqDiff, Nat.reduceLT, Nat.reduceLeDiff, Nat.reduceMod, Nat.reduceDiv, Nat.reducePow, Nat.reduceBEq, Int.reduceToNat, Int.reduceLE, Int.reduceLT, Int.reduceEq, Int.reduceAdd, Int.reduceMul, Int.reduceSub, Int.reduceNeg, Int.reduceNe, Tryd.TS, Tryd.ev_g0, Tryd.ev1_g0, Tryd.ev_g1, Tryd.ev1_g1, rep4, u256_zero]
    refine SCall.mono (wdiv 0 a m h0 ha hm) ?_; rintro rs rfl
    simp -dsimp -implicitDefEqProofs (disch := omega) only [↓gpre, ↓bldS, ↓bld, ↓reduceIte, ↓gmore, gpost, gall, keepT, den, del, upd, dels, refs, hasTy, sArgs, aRefs, rvs, nodupB, memB, app, pTm, Ty.bytes, kbytes, Ty.zeroD, Ty.size, Ty.cmp, Ty.depth, Go.SE.look, reduceCtorEq, Nat.reduceAdd, Nat.reduceSub, Nat.reduceMul, Nat.reduceEqDiff, Nat.reduceLT, Nat.reduceLeDiff, Nat.reduceMod, Nat.reduceDiv, Nat.reducePow, Nat.reduceBEq, Int.reduceToNat, Int.reduceLE, Int.reduceLT, Int.reduceEq, Int.reduceAdd, Int.reduceMul, Int.reduceSub, Int.reduceNeg, Int.reduceNe, Tryd.TS, Tryd.ev_g0, Tryd.ev1_g0, Tryd.ev_g1, Tryd.ev1_g1]

set_option maxHeartbeats 1000000 in
theorem wreduceRef (a m : Nat) (ha : a < 115792089237316195423570985008687907853269984665640564039457584007913129639936) (hm : m < 115792089237316195423570985008687907853269984665640564039457584007913129639936) (h0 : 0 < m) : SCall Tryd.prog 79 [(.arr 4 (.int .u64), u256 a), (.arr 4 (.int .u64), u256 m)] (fun rs => rs = [.d (.arr 4 (.int .u64)) (u256 (a % m))]) := by
  refine scall_intro (n := 17) (rl := [.cell 4 45]) (us := [45]) Tryd.hT Tryd.func79 rfl rfl rfl rfl rfl (Nat.le_of_ble_eq_true rfl) ?_
  intro w0
  simp -dsimp -implicitDefEqProofs (disch := omega) only [↓gpre, ↓bldS, ↓bld, ↓reduceIte, ↓gmore, gpost, gall, keepT, den, del, upd, dels, refs, hasTy, sArgs, aRefs, rvs, nodupB, memB, app, pTm, Ty.bytes, kbytes, Ty.zeroD, Ty.size, Ty.cmp, Ty.depth, Go.SE.look, reduceCtorEq, Nat.reduceAdd, Nat.reduceSub, Nat.reduceMul, Nat.reduceEqDiff, Nat.reduceLT, Nat.reduceLeDiff, Nat.reduceMod, Nat.reduceDiv, Nat.reducePow, Nat.reduceBEq, Int.reduceToNat, Int.reduceLE, Int.reduceLT, Int.reduceEq, Int.reduceAdd, Int.reduceMul, Int.reduceSub, Int.reduceNeg, Int.reduceNe, Tryd.TS, Tryd.ev_g0, Tryd.ev1_g0, Tryd.ev_g1, Tryd.ev1_g1, rep4, u256_zero]
  refine SCall.mono (wdivRef 0 a m h0 ha hm) ?_; rintro rs rfl
  simp -dsimp -implicitDefEqProofs (disch := omega) only [↓gpre, ↓bldS, ↓bld, ↓reduceIte, ↓gmore, gpost, gall, keepT, den, del, upd, dels, refs, hasTy, sArgs, aRefs, rvs, nodupB, memB, app, pTm, Ty.bytes, kbytes, Ty.zeroD, Ty.size, Ty.cmp, Ty.depth, Go.SE.look, reduceCtorEq, Nat.reduceAdd, Nat.reduceSub, Nat.reduceMul, Nat.reduceEqDiff, Nat.reduceLT, Nat.reduceLeDiff, Nat.reduceMod, Nat.reduceDiv, Nat.reducePow, Nat.reduceBEq, Int.reduceToNat, Int.reduceLE, Int.reduceLT, Int.reduceEq, Int.reduceAdd, Int.reduceMul, Int.reduceSub, Int.reduceNeg, Int.reduceNe, Tryd.TS, Tryd.ev_g0, Tryd.ev1_g0, Tryd.ev_g1, Tryd.ev1_g1]

set_option maxHeartbeats 1000000 in
theorem waddmod (a b m : Nat) (ha : a < 115792089237316195423570985008687907853269984665640564039457584007913129639936) (hb : b < 115792089237316195423570985008687907853269984665640564039457584007913129639936) (hm : m < 115792089237316195423570985008687907853269984665640564039457584007913129639936) (h0 : 0 < m) : SCall Tryd.prog 77 [(.arr 4 (.int .u64), u256 a), (.arr 4 (.int .u64), u256 b), (.arr 4 (.int .u64), u256 m)] (fun rs => rs = [.d (.arr 4 (.int .u64)) (u256 ((a + b) % m))]) := by
  have ham : a % m < m := Nat.mod_lt _ h0
  have hbm : b % m < m := Nat.mod_lt _ h0
  have hma : a % m < 115792089237316195423570985008687907853269984665640564039457584007913129639936 := by omega
  have hmb : b % m < 115792089237316195423570985008687907853269984665640564039457584007913129639936 := by omega
  refine scall_intro (n := 33) (rl := [.cell 6 45]) (us := [45]) Tryd.hT Tryd.func77 rfl rfl rfl rfl rfl (Nat.le_of_ble_eq_true rfl) ?_
  intro w0
  simp -dsimp -implicitDefEqProofs (disch := omega) only [↓gpre, ↓bldS, ↓bld, ↓reduceIte, ↓gmore, gpost, gall, keepT, den, del, upd, dels, refs, hasTy, sArgs, aRefs, rvs, nodupB, memB, app, pTm, Ty.bytes, kbytes, Ty.zeroD, Ty.size, Ty.cmp, Ty.depth, Go.SE.look, reduceCtorEq, Nat.reduceAdd, Nat.reduceSub, Nat.reduceMul, Nat.reduceEqDiff, Nat.reduceLT, Nat.reduceLeDiff, Nat.reduceMod, Nat.reduceDiv, Nat.reducePow, Nat.reduceBEq, Int.reduceToNat, Int.reduceLE, Int.reduceLT, Int.reduceEq, Int.reduceAdd, Int.reduceMul, Int.reduceSub, Int.reduceNeg, Int.reduceNe, Tryd.TS, Tryd.ev_g0, Tryd.ev1_g0, Tryd.ev_g1, Tryd.ev1_g1, rep4]
  refine sdrawM Tryd.hT (by kernel_rfl) [11] (.alt 0 (.alt 1 (.alt 3 (.alt 4 (.alt 2 (.alt 5 (.alt 6 (.alt 7 (.alt 8 (.alt 9 (.alt 10 (.alt 11 (.alt 12 .nil .nil) .nil) .nil) .nil) .nil) .nil) (.alt 10 (.alt 6 (.alt 7 (.alt 8 (.alt 9 (.alt 11 (.alt 12 .nil .nil) .nil) .nil) .nil) .nil) .nil) .nil)) (.alt 10 (.alt 5 (.alt 6 (.alt 7 (.alt 8 (.alt 9 (.alt 11 (.alt 12 .nil .nil) .nil) .nil) .nil) .nil) .nil) .nil) .nil)) (.alt 10 (.alt 2 (.alt 5 (.alt 6 (.alt 7 (.alt 8 (.alt 9 (.alt 11 (.alt 12 .nil .nil) .nil) .nil) .nil) .nil) .nil) .nil) .nil) .nil)) .nil) .nil) .nil) .nil) ⟨33, [(3, .v (.ptr 0 [])), (4, .v (.ptr 1 [])), (5, .v (.ptr 2 [])), (6, .v (.ptr 3 [])), (7, .v (.ptr 4 [])), (8, .v (.d .bool (.b (decide (115792089237316195423570985008687907853269984665640564039457584007913129639936 ≤ a % m + b % m)))))], [(0, ⟨.arr 4 (.int .u64), .d (.arr 4 (.int .u64)) (u256 a)⟩), (1, ⟨.arr 4 (.int .u64), .d (.arr 4 (.int .u64)) (u256 b)⟩), (2, ⟨.arr 4 (.int .u64), .d (.arr 4 (.int .u64)) (u256 m)⟩), (3, ⟨.arr 4 (.int .u64), .d (.arr 4 (.int .u64)) (.l [.n 0, .n 0, .n 0, .n 0])⟩), (4, ⟨.arr 4 (.int .u64), .d (.arr 4 (.int .u64)) (u256 ((a % m + b % m) % 115792089237316195423570985008687907853269984665640564039457584007913129639936))⟩)], 5⟩ (by kernel_rfl) (by kernel_rfl) ?_ ?_
  · simp only [tr_alt, tr_nil, tr_nil', pickO, List.getElem?_toArray, List.getElem?_cons_zero, List.getElem?_cons_succ]
    simp -dsimp -implicitDefEqProofs (disch := omega) only [↓gpre, ↓bldS, ↓bld, ↓reduceIte, ↓gmore, gpost, gall, keepT, den, del, upd, dels, refs, hasTy, sArgs, aRefs, rvs, nodupB, memB, app, pTm, Ty.bytes, kbytes, Ty.zeroD, Ty.size, Ty.cmp, Ty.depth, Go.SE.look, reduceCtorEq, Nat.reduceAdd, Nat.reduceSub, Nat.reduceMul, Nat.reduceEqDiff, Nat.reduceLT, Nat.reduceLeDiff, Nat.reduceMod, Nat.reduceDiv, Nat.reducePow, Nat.reduceBEq, Int.reduceToNat, Int.reduceLE, Int.reduceLT, Int.reduceEq, Int.reduceAdd, Int.reduceMul, Int.reduceSub, Int.reduceNeg, Int.reduceNe, Tryd.TS, Tryd.ev_g0, Tryd.ev1_g0, Tryd.ev_g1, Tryd.ev1_g1, rep4]
    repeat' (first
      | with_reducible refine And.intro ?_ ?_
      | (with_reducible refine HCall_mono (wmod a m ha hm h0) ?_; rintro rs rfl
         simp -dsimp -implicitDefEqProofs (disch := omega) only [↓gpre, ↓bldS, ↓bld, ↓reduceIte, ↓gmore, gpost, gall, keepT, den, del, upd, dels, refs, hasTy, sArgs, aRefs, rvs, nodupB, memB, app, pTm, Ty.bytes, kbytes, Ty.zeroD, Ty.size, Ty.cmp, Ty.depth, Go.SE.look, reduceCtorEq, Nat.reduceAdd, Nat.reduceSub, Nat.reduceMul, Nat.reduceEqDiff, Nat.reduceLT, Nat.reduceLeDiff, Nat.reduceMod, Nat.reduceDiv, Nat.reducePow, Nat.reduceBEq, Int.reduceToNat, Int.reduceLE, Int.reduceLT, Int.reduceEq, Int.reduceAdd, Int.reduceMul, Int.reduceSub, Int.reduceNeg, Int.reduceNe, Tryd.TS, Tryd.ev_g0, Tryd.ev1_g0, Tryd.ev_g1, Tryd.ev1_g1, rep4])
      | (with_reducible refine HCall_mono (wmod b m hb hm h0) ?_; rintro rs rfl
         simp -dsimp -implicitDefEqProofs (disch := omega) only [↓gpre, ↓bldS, ↓bld, ↓reduceIte, ↓gmore, gpost, gall, keepT, den, del, upd, dels, refs, hasTy, sArgs, aRefs, rvs, nodupB, memB, app, pTm, Ty.bytes, kbytes, Ty.zeroD, Ty.size, Ty.cmp, Ty.depth, Go.SE.look, reduceCtorEq, Nat.reduceAdd, Nat.reduceSub, Nat.reduceMul, Nat.reduceEqDiff, Nat.reduceLT, Nat.reduceLeDiff, Nat.reduceMod, Nat.reduceDiv, Nat.reducePow, Nat.reduceBEq, Int.reduceToNat, Int.reduceLE, Int.reduceLT, Int.reduceEq, Int.reduceAdd, Int.reduceMul, Int.reduceSub, Int.reduceNeg, Int.reduceNe, Tryd.TS, Tryd.ev_g0, Tryd.ev1_g0, Tryd.ev_g1, Tryd.ev1_g1, rep4])
      | (with_reducible refine HCall_mono (wadd (a % m) (b % m) hma hmb) ?_; rintro rs rfl
         simp -dsimp -implicitDefEqProofs (disch := omega) only [↓gpre, ↓bldS, ↓bld, ↓reduceIte, ↓gmore, gpost, gall, keepT, den, del, upd, dels, refs, hasTy, sArgs, aRefs, rvs, nodupB, memB, app, pTm, Ty.bytes, kbytes, Ty.zeroD, Ty.size, Ty.cmp, Ty.depth, Go.SE.look, reduceCtorEq, Nat.reduceAdd, Nat.reduceSub, Nat.reduceMul, Nat.reduceEqDiff, Nat.reduceLT, Nat.reduceLeDiff, Nat.reduceMod, Nat.reduceDiv, Nat.reducePow, Nat.reduceBEq, Int.reduceToNat, Int.reduceLE, Int.reduceLT, Int.reduceEq, Int.reduceAdd, Int.reduceMul, Int.reduceSub, Int.reduceNeg, Int.reduceNe, Tryd.TS, Tryd.ev_g0, Tryd.ev1_g0, Tryd.ev_g1, Tryd.ev1_g1, rep4])
      | with_reducible exact True.intro
      | (first | (refine sub_ren w0 [(0, 0), (1, 1), (2, 2), (3, 3), (4, 4)] rfl ?_ rfl ?_ ?_; (focus (simp [keysLt]; done)); (focus (simp [renTm, Go.SE.look, renTV, renSV]; done)); (focus (simp [renOb, Go.SE.look, renSV]; done))) | (refine sub_ren w0 [(0, 0), (1, 1), (2, 2), (3, 3), (4, 5)] rfl ?_ rfl ?_ ?_; (focus (simp [keysLt]; done)); (focus (simp [renTm, Go.SE.look, renTV, renSV]; done)); (focus (simp [renOb, Go.SE.look, renSV]; done))) | (refine sub_ren w0 [(0, 0), (1, 1), (2, 2), (3, 3), (4, 6)] rfl ?_ rfl ?_ ?_; (focus (simp [keysLt]; done)); (focus (simp [renTm, Go.SE.look, renTV, renSV]; done)); (focus (simp [renOb, Go.SE.look, renSV]; done))) | (refine sub_ren w0 [(0, 0), (1, 1), (2, 2), (3, 3), (4, 8)] rfl ?_ rfl ?_ ?_; (focus (simp [keysLt]; done)); (focus (simp [renTm, Go.SE.look, renTV, renSV]; done)); (focus (simp [renOb, Go.SE.look, renSV]; done)))))
  simp -dsimp -implicitDefEqProofs (disch := omega) only [↓gpre, ↓bldS, ↓bld, ↓reduceIte, ↓gmore, gpost, gall, keepT, den, del, upd, dels, refs, hasTy, sArgs, aRefs, rvs, nodupB, memB, app, pTm, Ty.bytes, kbytes, Ty.zeroD, Ty.size, Ty.cmp, Ty.depth, Go.SE.look, reduceCtorEq, Nat.reduceAdd, Nat.reduceSub, Nat.reduceMul, Nat.reduceEqDiff, Nat.reduceLT, Nat.reduceLeDiff, Nat.reduceMod, Nat.reduceDiv, Nat.reducePow, Nat.reduceBEq, Int.reduceToNat, Int.reduceLE, Int.reduceLT, Int.reduceEq, Int.reduceAdd, Int.reduceMul, Int.reduceSub, Int.reduceNeg, Int.reduceNe, Tryd.TS, Tryd.ev_g0, Tryd.ev1_g0, Tryd.ev_g1, Tryd.ev1_g1]
  refine HIf_dec (a := ()) (b := ()) (fun hov => ?_) (fun hov => ?_)
  · simp -dsimp -implicitDefEqProofs (disch := omega) only [↓gpre, ↓bldS, ↓bld, ↓reduceIte, ↓gmore, gpost, gall, keepT, den, del, upd, dels, refs, hasTy, sArgs, aRefs, rvs, nodupB, memB, app, pTm, Ty.bytes, kbytes, Ty.zeroD, Ty.size, Ty.cmp, Ty.depth, Go.SE.look, reduceCtorEq, Nat.reduceAdd, Nat.reduceSub, Nat.reduceMul, Nat.reduceEqDiff, Nat.reduceLT, Nat.reduceLeDiff, Nat.reduceMod, Nat.reduceDiv, Nat.reducePow, Nat.reduceBEq, Int.reduceToNat, Int.reduceLE, Int.reduceLT, Int.reduceEq, Int.reduceAdd, Int.reduceMul, Int.reduceSub, Int.reduceNeg, Int.reduceNe, Tryd.TS, Tryd.ev_g0, Tryd.ev1_g0, Tryd.ev_g1, Tryd.ev1_g1]
    refine SCall.mono (wsub ((a % m + b % m) % 115792089237316195423570985008687907853269984665640564039457584007913129639936) m (Nat.mod_lt _ (by omega)) hm) ?_; rintro rs rfl
    simp -dsimp -implicitDefEqProofs (disch := omega) only [↓gpre, ↓bldS, ↓bld, ↓reduceIte, ↓gmore, gpost, gall, keepT, den, del, upd, dels, refs, hasTy, sArgs, aRefs, rvs, nodupB, memB, app, pTm, Ty.bytes, kbytes, Ty.zeroD, Ty.size, Ty.cmp, Ty.depth, Go.SE.look, reduceCtorEq, Nat.reduceAdd, Nat.reduceSub, Nat.reduceMul, Nat.reduceEqDiff, Nat.reduceLT, Nat.reduceLeDiff, Nat.reduceMod, Nat.reduceDiv, Nat.reducePow, Nat.reduceBEq, Int.reduceToNat, Int.reduceLE, Int.reduceLT, Int.reduceEq, Int.reduceAdd, Int.reduceMul, Int.reduceSub, Int.reduceNeg, Int.reduceNe, Tryd.TS, Tryd.ev_g0, Tryd.ev1_g0, Tryd.ev_g1, Tryd.ev1_g1]
    rw [show ((a % m + b % m) % 115792089237316195423570985008687907853269984665640564039457584007913129639936 + 115792089237316195423570985008687907853269984665640564039457584007913129639936 - m) % 115792089237316195423570985008687907853269984665640564039457584007913129639936 = (a + b) % m by rw [addmod_ge h0 (by omega)]; omega]
  simp -dsimp -implicitDefEqProofs (disch := omega) only [↓gpre, ↓bldS, ↓bld, ↓reduceIte, ↓gmore, gpost, gall, keepT, den, del, upd, dels, refs, hasTy, sArgs, aRefs, rvs, nodupB, memB, app, pTm, Ty.bytes, kbytes, Ty.zeroD, Ty.size, Ty.cmp, Ty.depth, Go.SE.look, reduceCtorEq, Nat.reduceAdd, Nat.reduceSub, Nat.reduceMul, Nat.reduceEqDiff, Nat.reduceLT, Nat.reduceLeDiff, Nat.reduceMod, Nat.reduceDiv, Nat.reducePow, Nat.reduceBEq, Int.reduceToNat, Int.reduceLE, Int.reduceLT, Int.reduceEq, Int.reduceAdd, Int.reduceMul, Int.reduceSub, Int.reduceNeg, Int.reduceNe, Tryd.TS, Tryd.ev_g0, Tryd.ev1_g0, Tryd.ev_g1, Tryd.ev1_g1]
  refine SCall.mono (wcmp ((a % m + b % m) % 115792089237316195423570985008687907853269984665640564039457584007913129639936) m (Nat.mod_lt _ (by omega)) hm) ?_; rintro rs rfl
  simp -dsimp -implicitDefEqProofs (disch := omega) only [↓gpre, ↓bldS, ↓bld, ↓reduceIte, ↓gmore, gpost, gall, keepT, den, del, upd, dels, refs, hasTy, sArgs, aRefs, rvs, nodupB, memB, app, pTm, Ty.bytes, kbytes, Ty.zeroD, Ty.size, Ty.cmp, Ty.depth, Go.SE.look, reduceCtorEq, Nat.reduceAdd, Nat.reduceSub, Nat.reduceMul, Nat.reduceEqDiff, Nat.reduceLT, Nat.reduceLeDiff, Nat.reduceMod, Nat.reduceDiv, Nat.reducePow, Nat.reduceBEq, Int.reduceToNat, Int.reduceLE, Int.reduceLT, Int.reduceEq, Int.reduceAdd, Int.reduceMul, Int.reduceSub, Int.reduceNeg, Int.reduceNe, Tryd.TS, Tryd.ev_g0, Tryd.ev1_g0, Tryd.ev_g1, Tryd.ev1_g1]
  refine HIf_dec (a := ()) (b := ()) (fun hc => ?_) (fun hc => ?_)
  · simp -dsimp -implicitDefEqProofs (disch := omega) only [↓gpre, ↓bldS, ↓bld, ↓reduceIte, ↓gmore, gpost, gall, keepT, den, del, upd, dels, refs, hasTy, sArgs, aRefs, rvs, nodupB, memB, app, pTm, Ty.bytes, kbytes, Ty.zeroD, Ty.size, Ty.cmp, Ty.depth, Go.SE.look, reduceCtorEq, Nat.reduceAdd, Nat.reduceSub, Nat.reduceMul, Nat.reduceEqDiff, Nat.reduceLT, Nat.reduceLeDiff, Nat.reduceMod, Nat.reduceDiv, Nat.reducePow, Nat.reduceBEq, Int.reduceToNat, Int.reduceLE, Int.reduceLT, Int.reduceEq, Int.reduceAdd, Int.reduceMul, Int.reduceSub, Int.reduceNeg, Int.reduceNe, Tryd.TS, Tryd.ev_g0, Tryd.ev1_g0, Tryd.ev_g1, Tryd.ev1_g1]
    refine SCall.mono (wsub ((a % m + b % m) % 115792089237316195423570985008687907853269984665640564039457584007913129639936) m (Nat.mod_lt _ (by omega)) hm) ?_; rintro rs rfl
    simp -dsimp -implicitDefEqProofs (disch := omega) only [↓gpre, ↓bldS, ↓bld, ↓reduceIte, ↓gmore, gpost, gall, keepT, den, del, upd, dels, refs, hasTy, sArgs, aRefs, rvs, nodupB, memB, app, pTm, Ty.bytes, kbytes, Ty.zeroD, Ty.size, Ty.cmp, Ty.depth, Go.SE.look, reduceCtorEq, Nat.reduceAdd, Nat.reduceSub, Nat.reduceMul, Nat.reduceEqDiff, Nat.reduceLT, Nat.reduceLeDiff, Nat.reduceMod, Nat.reduceDiv, Nat.reducePow, Nat.reduceBEq, Int.reduceToNat, Int.reduceLE, Int.reduceLT, Int.reduceEq, Int.reduceAdd, Int.reduceMul, Int.reduceSub, Int.reduceNeg, Int.reduceNe, Tryd.TS, Tryd.ev_g0, Tryd.ev1_g0, Tryd.ev_g1, Tryd.ev1_g1]
    have hge : m ≤ a % m + b % m := by
      split at hc
      · omega
      · split at hc <;> omega
    rw [show ((a % m + b % m) % 115792089237316195423570985008687907853269984665640564039457584007913129639936 + 115792089237316195423570985008687907853269984665640564039457584007913129639936 - m) % 115792089237316195423570985008687907853269984665640564039457584007913129639936 = (a + b) % m by rw [addmod_ge h0 (by omega)]; omega]
  · simp -dsimp -implicitDefEqProofs (disch := omega) only [↓gpre, ↓bldS, ↓bld, ↓reduceIte, ↓gmore, gpost, gall, keepT, den, del, upd, dels, refs, hasTy, sArgs, aRefs, rvs, nodupB, memB, app, pTm, Ty.bytes, kbytes, Ty.zeroD, Ty.size, Ty.cmp, Ty.depth, Go.SE.look, reduceCtorEq, Nat.reduceAdd, Nat.reduceSub, Nat.reduceMul, Nat.reduceEqDiff, Nat.reduceLT, Nat.reduceLeDiff, Nat.reduceMod, Nat.reduceDiv, Nat.reducePow, Nat.reduceBEq, Int.reduceToNat, Int.reduceLE, Int.reduceLT, Int.reduceEq, Int.reduceAdd, Int.reduceMul, Int.reduceSub, Int.reduceNeg, Int.reduceNe, Tryd.TS, Tryd.ev_g0, Tryd.ev1_g0, Tryd.ev_g1, Tryd.ev1_g1]
    have hlt : a % m + b % m < m := by
      split at hc
      · omega
      · split at hc <;> omega
    rw [show (a % m + b % m) % 115792089237316195423570985008687907853269984665640564039457584007913129639936 = (a + b) % m by rw [addmod_lt hlt]; omega]

set_option maxHeartbeats 1000000 in
theorem waddmodRef (a b m : Nat) (ha : a < 115792089237316195423570985008687907853269984665640564039457584007913129639936) (hb : b < 115792089237316195423570985008687907853269984665640564039457584007913129639936) (hm : m < 115792089237316195423570985008687907853269984665640564039457584007913129639936) (h0 : 0 < m) : SCall Tryd.prog 44 [(.arr 4 (.int .u64), u256 a), (.arr 4 (.int .u64), u256 b), (.arr 4 (.int .u64), u256 m)] (fun rs => rs = [.d (.arr 4 (.int .u64)) (u256 ((a + b) % m))]) := by
  refine scall_intro (n := 38) (rl := [.cell 6 45]) (us := [45]) Tryd.hT Tryd.func44 rfl rfl rfl rfl rfl (Nat.le_of_ble_eq_true rfl) ?_
  intro w0
  simp -dsimp -implicitDefEqProofs (disch := omega) only [↓gpre, ↓bldS, ↓bld, ↓reduceIte, ↓gmore, gpost, gall, keepT, den, del, upd, dels, refs, hasTy, sArgs, aRefs, rvs, nodupB, memB, app, pTm, Ty.bytes, kbytes, Ty.zeroD, Ty.size, Ty.cmp, Ty.depth, Go.SE.look, reduceCtorEq, Nat.reduceAdd, Nat.reduceSub, Nat.reduceMul, Nat.reduceEqDiff, Nat.reduceLT, Nat.reduceLeDiff, Nat.reduceMod, Nat.reduceDiv, Nat.reducePow, Nat.reduceBEq, Int.reduceToNat, Int.reduceLE, Int.reduceLT, Int.reduceEq, Int.reduceAdd, Int.reduceMul, Int.reduceSub, Int.reduceNeg, Int.reduceNe, Tryd.TS, Tryd.ev_g0, Tryd.ev1_g0, Tryd.ev_g1, Tryd.ev1_g1, rep4]
  refine SCall.mono (wzeroRef m hm) ?_; rintro rs rfl
  simp -dsimp -implicitDefEqProofs (disch := omega) only [↓gpre, ↓bldS, ↓bld, ↓reduceIte, ↓gmore, gpost, gall, keepT, den, del, upd, dels, refs, hasTy, sArgs, aRefs, rvs, nodupB, memB, app, pTm, Ty.bytes, kbytes, Ty.zeroD, Ty.size, Ty.cmp, Ty.depth, Go.SE.look, reduceCtorEq, Nat.reduceAdd, Nat.reduceSub, Nat.reduceMul, Nat.reduceEqDiff, Nat.reduceLT, Nat.reduceLeDiff, Nat.reduceMod, Nat.reduceDiv, Nat.reducePow, Nat.reduceBEq, Int.reduceToNat, Int.reduceLE, Int.reduceLT, Int.reduceEq, Int.reduceAdd, Int.reduceMul, Int.reduceSub, Int.reduceNeg, Int.reduceNe, Tryd.TS, Tryd.ev_g0, Tryd.ev1_g0, Tryd.ev_g1, Tryd.ev1_g1]
  refine HIf_dec (a := ()) (b := ()) (fun hz => ?_) (fun hz => ?_)
  · omega
  simp -dsimp -implicitDefEqProofs (disch := omega) only [↓gpre, ↓bldS, ↓bld, ↓reduceIte, ↓gmore, gpost, gall, keepT, den, del, upd, dels, refs, hasTy, sArgs, aRefs, rvs, nodupB, memB, app, pTm, Ty.bytes, kbytes, Ty.zeroD, Ty.size, Ty.cmp, Ty.depth, Go.SE.look, reduceCtorEq, Nat.reduceAdd, Nat.reduceSub, Nat.reduceMul, Nat.reduceEqDiff, Nat.reduceLT, Nat.reduceLeDiff, Nat.reduceMod, Nat.reduceDiv, Nat.reducePow, Nat.reduceBEq, Int.reduceToNat, Int.reduceLE, Int.reduceLT, Int.reduceEq, Int.reduceAdd, Int.reduceMul, Int.reduceSub, Int.reduceNeg, Int.reduceNe, Tryd.TS, Tryd.ev_g0, Tryd.ev1_g0, Tryd.ev_g1, Tryd.ev1_g1]
  have ham : a % m < m := Nat.mod_lt _ h0
  have hbm : b % m < m := Nat.mod_lt _ h0
  refine sdraw Tryd.hT (by kernel_rfl) [6, 7] [0, 1, 3, 4, 2, 5, 6, 7] (by kernel_rfl) (by kernel_rfl) (by kernel_rfl) ?_; simp only [pickO, List.getElem?_toArray, List.getElem?_cons_zero, List.getElem?_cons_succ]
  simp -dsimp -implicitDefEqProofs (disch := omega) only [↓gpre, ↓bldS, ↓bld, ↓reduceIte, ↓gmore, gpost, gall, keepT, den, del, upd, dels, refs, hasTy, sArgs, aRefs, rvs, nodupB, memB, app, pTm, Ty.bytes, kbytes, Ty.zeroD, Ty.size, Ty.cmp, Ty.depth, Go.SE.look, reduceCtorEq, Nat.reduceAdd, Nat.reduceSub, Nat.reduceMul, Nat.reduceEqDiff, Nat.reduceLT, Nat.reduceLeDiff, Nat.reduceMod, Nat.reduceDiv, Nat.reducePow, Nat.reduceBEq, Int.reduceToNat, Int.reduceLE, Int.reduceLT, Int.reduceEq, Int.reduceAdd, Int.reduceMul, Int.reduceSub, Int.reduceNeg, Int.reduceNe, Tryd.TS, Tryd.ev_g0, Tryd.ev1_g0, Tryd.ev_g1, Tryd.ev1_g1]
  refine SCall.mono (wreduceRef a m ha hm h0) ?_; rintro rs rfl
  simp -dsimp -implicitDefEqProofs (disch := omega) only [↓gpre, ↓bldS, ↓bld, ↓reduceIte, ↓gmore, gpost, gall, keepT, den, del, upd, dels, refs, hasTy, sArgs, aRefs, rvs, nodupB, memB, app, pTm, Ty.bytes, kbytes, Ty.zeroD, Ty.size, Ty.cmp, Ty.depth, Go.SE.look, reduceCtorEq, Nat.reduceAdd, Nat.reduceSub, Nat.reduceMul, Nat.reduceEqDiff, Nat.reduceLT, Nat.reduceLeDiff, Nat.reduceMod, Nat.reduceDiv, Nat.reducePow, Nat.reduceBEq, Int.reduceToNat, Int.reduceLE, Int.reduceLT, Int.reduceEq, Int.reduceAdd, Int.reduceMul, Int.reduceSub, Int.reduceNeg, Int.reduceNe, Tryd.TS, Tryd.ev_g0, Tryd.ev1_g0, Tryd.ev_g1, Tryd.ev1_g1]
  refine SCall.mono (wreduceRef b m hb hm h0) ?_; rintro rs rfl
  simp -dsimp -implicitDefEqProofs (disch := omega) only [↓gpre, ↓bldS, ↓bld, ↓reduceIte, ↓gmore, gpost, gall, keepT, den, del, upd, dels, refs, hasTy, sArgs, aRefs, rvs, nodupB, memB, app, pTm, Ty.bytes, kbytes, Ty.zeroD, Ty.size, Ty.cmp, Ty.depth, Go.SE.look, reduceCtorEq, Nat.reduceAdd, Nat.reduceSub, Nat.reduceMul, Nat.reduceEqDiff, Nat.reduceLT, Nat.reduceLeDiff, Nat.reduceMod, Nat.reduceDiv, Nat.reducePow, Nat.reduceBEq, Int.reduceToNat, Int.reduceLE, Int.reduceLT, Int.reduceEq, Int.reduceAdd, Int.reduceMul, Int.reduceSub, Int.reduceNeg, Int.reduceNe, Tryd.TS, Tryd.ev_g0, Tryd.ev1_g0, Tryd.ev_g1, Tryd.ev1_g1]
  refine SCall.mono (waddRef (a % m) (b % m) (by omega) (by omega)) ?_; rintro rs rfl
  simp -dsimp -implicitDefEqProofs (disch := omega) only [↓gpre, ↓bldS, ↓bld, ↓reduceIte, ↓gmore, gpost, gall, keepT, den, del, upd, dels, refs, hasTy, sArgs, aRefs, rvs, nodupB, memB, app, pTm, Ty.bytes, kbytes, Ty.zeroD, Ty.size, Ty.cmp, Ty.depth, Go.SE.look, reduceCtorEq, Nat.reduceAdd, Nat.reduceSub, Nat.reduceMul, Nat.reduceEqDiff, Nat.reduceLT, Nat.reduceLeDiff, Nat.reduceMod, Nat.reduceDiv, Nat.reducePow, Nat.reduceBEq, Int.reduceToNat, Int.reduceLE, Int.reduceLT, Int.reduceEq, Int.reduceAdd, Int.reduceMul, Int.reduceSub, Int.reduceNeg, Int.reduceNe, Tryd.TS, Tryd.ev_g0, Tryd.ev1_g0, Tryd.ev_g1, Tryd.ev1_g1]
  refine HIf_dec (a := ()) (b := ()) (fun hov => ?_) (fun hov => ?_)
  · simp -dsimp -implicitDefEqProofs (disch := omega) only [↓gpre, ↓bldS, ↓bld, ↓reduceIte, ↓gmore, gpost, gall, keepT, den, del, upd, dels, refs, hasTy, sArgs, aRefs, rvs, nodupB, memB, app, pTm, Ty.bytes, kbytes, Ty.zeroD, Ty.size, Ty.cmp, Ty.depth, Go.SE.look, reduceCtorEq, Nat.reduceAdd, Nat.reduceSub, Nat.reduceMul, Nat.reduceEqDiff, Nat.reduceLT, Nat.reduceLeDiff, Nat.reduceMod, Nat.reduceDiv, Nat.reducePow, Nat.reduceBEq, Int.reduceToNat, Int.reduceLE, Int.reduceLT, Int.reduceEq, Int.reduceAdd, Int.reduceMul, Int.reduceSub, Int.reduceNeg, Int.reduceNe, Tryd.TS, Tryd.ev_g0, Tryd.ev1_g0, Tryd.ev_g1, Tryd.ev1_g1]
    refine SCall.mono (wsubRef ((a % m + b % m) % 115792089237316195423570985008687907853269984665640564039457584007913129639936) m (Nat.mod_lt _ (by omega)) hm) ?_; rintro rs rfl
    simp -dsimp -implicitDefEqProofs (disch := omega) only [↓gpre, ↓bldS, ↓bld, ↓reduceIte, ↓gmore, gpost, gall, keepT, den, del, upd, dels, refs, hasTy, sArgs, aRefs, rvs, nodupB, memB, app, pTm, Ty.bytes, kbytes, Ty.zeroD, Ty.size, Ty.cmp, Ty.depth, Go.SE.look, reduceCtorEq, Nat.reduceAdd, Nat.reduceSub, Nat.reduceMul, Nat.reduceEqDiff, Nat.reduceLT, Nat.reduceLeDiff, Nat.reduceMod, Nat.reduceDiv, Nat.reducePow, Nat.reduceBEq, Int.reduceToNat, Int.reduceLE, Int.reduceLT, Int.reduceEq, Int.reduceAdd, Int.reduceMul, Int.reduceSub, Int.reduceNeg, Int.reduceNe, Tryd.TS, Tryd.ev_g0, Tryd.ev1_g0, Tryd.ev_g1, Tryd.ev1_g1]
    rw [show ((a % m + b % m) % 115792089237316195423570985008687907853269984665640564039457584007913129639936 + 115792089237316195423570985008687907853269984665640564039457584007913129639936 - m) % 115792089237316195423570985008687907853269984665640564039457584007913129639936 = (a + b) % m by rw [addmod_ge h0 (by omega)]; omega]
  simp -dsimp -implicitDefEqProofs (disch := omega) only [↓gpre, ↓bldS, ↓bld, ↓reduceIte, ↓gmore, gpost, gall, keepT, den, del, upd, dels, refs, hasTy, sArgs, aRefs, rvs, nodupB, memB, app, pTm, Ty.bytes, kbytes, Ty.zeroD, Ty.size, Ty.cmp, Ty.depth, Go.SE.look, reduceCtorEq, Nat.reduceAdd, Nat.reduceSub, Nat.reduceMul, Nat.reduceEqDiff, Nat.reduceLT, Nat.reduceLeDiff, Nat.reduceMod, Nat.reduceDiv, Nat.reducePow, Nat.reduceBEq, Int.reduceToNat, Int.reduceLE, Int.reduceLT, Int.reduceEq, Int.reduceAdd, Int.reduceMul, Int.reduceSub, Int.reduceNeg, Int.reduceNe, Tryd.TS, Tryd.ev_g0, Tryd.ev1_g0, Tryd.ev_g1, Tryd.ev1_g1]
  refine SCall.mono (wcmpRef ((a % m + b % m) % 115792089237316195423570985008687907853269984665640564039457584007913129639936) m (Nat.mod_lt _ (by omega)) hm) ?_; rintro rs rfl
  simp -dsimp -implicitDefEqProofs (disch := omega) only [↓gpre, ↓bldS, ↓bld, ↓reduceIte, ↓gmore, gpost, gall, keepT, den, del, upd, dels, refs, hasTy, sArgs, aRefs, rvs, nodupB, memB, app, pTm, Ty.bytes, kbytes, Ty.zeroD, Ty.size, Ty.cmp, Ty.depth, Go.SE.look, reduceCtorEq, Nat.reduceAdd, Nat.reduceSub, Nat.reduceMul, Nat.reduceEqDiff, Nat.reduceLT, Nat.reduceLeDiff, Nat.reduceMod, Nat.reduceDiv, Nat.reducePow, Nat.reduceBEq, Int.reduceToNat, Int.reduceLE, Int.reduceLT, Int.reduceEq, Int.reduceAdd, Int.reduceMul, Int.reduceSub, Int.reduceNeg, Int.reduceNe, Tryd.TS, Tryd.ev_g0, Tryd.ev1_g0, Tryd.ev_g1, Tryd.ev1_g1]
  refine HIf_dec (a := ()) (b := ()) (fun hc => ?_) (fun hc => ?_)
  · simp -dsimp -implicitDefEqProofs (disch := omega) only [↓gpre, ↓bldS, ↓bld, ↓reduceIte, ↓gmore, gpost, gall, keepT, den, del, upd, dels, refs, hasTy, sArgs, aRefs, rvs, nodupB, memB, app, pTm, Ty.bytes, kbytes, Ty.zeroD, Ty.size, Ty.cmp, Ty.depth, Go.SE.look, reduceCtorEq, Nat.reduceAdd, Nat.reduceSub, Nat.reduceMul, Nat.reduceEqDiff, Nat.reduceLT, Nat.reduceLeDiff, Nat.reduceMod, Nat.reduceDiv, Nat.reducePow, Nat.reduceBEq, Int.reduceToNat, Int.reduceLE, Int.reduceLT, Int.reduceEq, Int.reduceAdd, Int.reduceMul, Int.reduceSub, Int.reduceNeg, Int.reduceNe, Tryd.TS, Tryd.ev_g0, Tryd.ev1_g0, Tryd.ev_g1, Tryd.ev1_g1]
    refine SCall.mono (wsubRef ((a % m + b % m) % 115792089237316195423570985008687907853269984665640564039457584007913129639936) m (Nat.mod_lt _ (by omega)) hm) ?_; rintro rs rfl
    simp -dsimp -implicitDefEqProofs (disch := omega) only [↓gpre, ↓bldS, ↓bld, ↓reduceIte, ↓gmore, gpost, gall, keepT, den, del, upd, dels, refs, hasTy, sArgs, aRefs, rvs, nodupB, memB, app, pTm, Ty.bytes, kbytes, Ty.zeroD, Ty.size, Ty.cmp, Ty.depth, Go.SE.look, reduceCtorEq, Nat.reduceAdd, Nat.reduceSub, Nat.reduceMul, Nat.reduceEqDiff, Nat.reduceLT, Nat.reduceLeDiff, Nat.reduceMod, Nat.reduceDiv, Nat.reducePow, Nat.reduceBEq, Int.reduceToNat, Int.reduceLE, Int.reduceLT, Int.reduceEq, Int.reduceAdd, Int.reduceMul, Int.reduceSub, Int.reduceNeg, Int.reduceNe, Tryd.TS, Tryd.ev_g0, Tryd.ev1_g0, Tryd.ev_g1, Tryd.ev1_g1]
    have hge : m ≤ a % m + b % m := by
      split at hc
      · omega
      · split at hc <;> omega
    rw [show ((a % m + b % m) % 115792089237316195423570985008687907853269984665640564039457584007913129639936 + 115792089237316195423570985008687907853269984665640564039457584007913129639936 - m) % 115792089237316195423570985008687907853269984665640564039457584007913129639936 = (a + b) % m by rw [addmod_ge h0 (by omega)]; omega]
  · simp -dsimp -implicitDefEqProofs (disch := omega) only [↓gpre, ↓bldS, ↓bld, ↓reduceIte, ↓gmore, gpost, gall, keepT, den, del, upd, dels, refs, hasTy, sArgs, aRefs, rvs, nodupB, memB, app, pTm, Ty.bytes, kbytes, Ty.zeroD, Ty.size, Ty.cmp, Ty.depth, Go.SE.look, reduceCtorEq, Nat.reduceAdd, Nat.reduceSub, Nat.reduceMul, Nat.reduceEqDiff, Nat.reduceLT, Nat.reduceLeDiff, Nat.reduceMod, Nat.reduceDiv, Nat.reducePow, Nat.reduceBEq, Int.reduceToNat, Int.reduceLE, Int.reduceLT, Int.reduceEq, Int.reduceAdd, Int.reduceMul, Int.reduceSub, Int.reduceNeg, Int.reduceNe, Tryd.TS, Tryd.ev_g0, Tryd.ev1_g0, Tryd.ev_g1, Tryd.ev1_g1]
    have hlt : a % m + b % m < m := by
      split at hc
      · omega
      · split at hc <;> omega
    rw [show (a % m + b % m) % 115792089237316195423570985008687907853269984665640564039457584007913129639936 = (a + b) % m by rw [addmod_lt hlt]; omega]
end Go.Proofs
/- Numbers of 256 bits: differences and products modulo a number. -/
namespace Go.Proofs
open Go.SE

theorem submod_ge {a b m : Nat} (h0 : 0 < m) (h : b % m ≤ a % m) : (a % m + m - b % m) % m = a % m - b % m := by
  have h1 := Nat.mod_lt a h0
  rw [Nat.mod_eq_sub_mod (by omega), Nat.mod_eq_of_lt (by omega)]; omega
theorem submod_lt {a b m : Nat} (h0 : 0 < m) (h : a % m < b % m) : (a % m + m - b % m) % m = a % m + m - b % m := by
  have h2 := Nat.mod_lt b h0
  rw [Nat.mod_eq_of_lt (by omega)]

set_option maxHeartbeats 2000000 in
theorem wsubmod (a b m : Nat) (ha : a < 115792089237316195423570985008687907853269984665640564039457584007913129639936) (hb : b < 115792089237316195423570985008687907853269984665640564039457584007913129639936) (hm : m < 115792089237316195423570985008687907853269984665640564039457584007913129639936) (h0 : 0 < m) : SCall Tryd.prog 89 [(.arr 4 (.int .u64), u256 a), (.arr 4 (.int .u64), u256 b), (.arr 4 (.int .u64), u256 m)] (fun rs => rs = [.d (.arr 4 (.int .u64)) (u256 ((a % m + m - b % m) % m))]) := by
  have ham : a % m < m := Nat.mod_lt _ h0
  have hbm : b % m < m := Nat.mod_lt _ h0
  have hma : a % m < 115792089237316195423570985008687907853269984665640564039457584007913129639936 := by omega
  have hmb : b % m < 115792089237316195423570985008687907853269984665640564039457584007913129639936 := by omega
  refine scall_intro (n := 27) (rl := [.cell 6 45]) (us := [45]) Tryd.hT Tryd.func89 rfl rfl rfl rfl rfl (Nat.le_of_ble_eq_true rfl) ?_
  intro w0
  simp -dsimp -implicitDefEqProofs (disch := omega) only [↓gpre, ↓bldS, ↓bld, ↓reduceIte, ↓gmore, gpost, gall, keepT, den, del, upd, dels, refs, hasTy, sArgs, aRefs, rvs, nodupB, memB, app, pTm, Ty.bytes, kbytes, Ty.zeroD, Ty.size, Ty.cmp, Ty.depth, Go.SE.look, reduceCtorEq, Nat.reduceAdd, Nat.reduceSub, Nat.reduceMul, Nat.reduceEqDiff, Nat.reduceLT, Nat.reduceLeDiff, Nat.reduceMod, Nat.reduceDiv, Nat.reducePow, Nat.reduceBEq, Int.reduceToNat, Int.reduceLE, Int.reduceLT, Int.reduceEq, Int.reduceAdd, Int.reduceMul, Int.reduceSub, Int.reduceNeg, Int.reduceNe, Tryd.TS, Tryd.ev_g0, Tryd.ev1_g0, Tryd.ev_g1, Tryd.ev1_g1, rep4]
  refine sdrawM Tryd.hT (by kernel_rfl) [11] (.alt 0 (.alt 1 (.alt 3 (.alt 4 (.alt 2 (.alt 5 (.alt 6 (.alt 7 (.alt 8 (.alt 9 (.alt 10 (.alt 11 (.alt 12 .nil .nil) .nil) .nil) .nil) .nil) .nil) (.alt 10 (.alt 6 (.alt 7 (.alt 8 (.alt 9 (.alt 11 (.alt 12 .nil .nil) .nil) .nil) .nil) .nil) .nil) .nil)) (.alt 10 (.alt 5 (.alt 6 (.alt 7 (.alt 8 (.alt 9 (.alt 11 (.alt 12 .nil .nil) .nil) .nil) .nil) .nil) .nil) .nil) .nil)) (.alt 10 (.alt 2 (.alt 5 (.alt 6 (.alt 7 (.alt 8 (.alt 9 (.alt 11 (.alt 12 .nil .nil) .nil) .nil) .nil) .nil) .nil) .nil) .nil) .nil)) .nil) .nil) .nil) .nil) ⟨27, [(3, .v (.ptr 0 [])), (4, .v (.ptr 1 [])), (5, .v (.ptr 2 [])), (6, .v (.ptr 3 [])), (7, .v (.ptr 4 [])), (8, .v (.d .bool (.b (decide (a % m < b % m)))))], [(0, ⟨.arr 4 (.int .u64), .d (.arr 4 (.int .u64)) (u256 a)⟩), (1, ⟨.arr 4 (.int .u64), .d (.arr 4 (.int .u64)) (u256 b)⟩), (2, ⟨.arr 4 (.int .u64), .d (.arr 4 (.int .u64)) (u256 m)⟩), (3, ⟨.arr 4 (.int .u64), .d (.arr 4 (.int .u64)) (.l [.n 0, .n 0, .n 0, .n 0])⟩), (4, ⟨.arr 4 (.int .u64), .d (.arr 4 (.int .u64)) (u256 ((a % m + 115792089237316195423570985008687907853269984665640564039457584007913129639936 - b % m) % 115792089237316195423570985008687907853269984665640564039457584007913129639936))⟩)], 5⟩ (by kernel_rfl) (by kernel_rfl) ?_ ?_
  · simp only [tr_alt, tr_nil, tr_nil', pickO, List.getElem?_toArray, List.getElem?_cons_zero, List.getElem?_cons_succ]
    simp -dsimp -implicitDefEqProofs (disch := omega) only [↓gpre, ↓bldS, ↓bld, ↓reduceIte, ↓gmore, gpost, gall, keepT, den, del, upd, dels, refs, hasTy, sArgs, aRefs, rvs, nodupB, memB, app, pTm, Ty.bytes, kbytes, Ty.zeroD, Ty.size, Ty.cmp, Ty.depth, Go.SE.look, reduceCtorEq, Nat.reduceAdd, Nat.reduceSub, Nat.reduceMul, Nat.reduceEqDiff, Nat.reduceLT, Nat.reduceLeDiff, Nat.reduceMod, Nat.reduceDiv, Nat.reducePow, Nat.reduceBEq, Int.reduceToNat, Int.reduceLE, Int.reduceLT, Int.reduceEq, Int.reduceAdd, Int.reduceMul, Int.reduceSub, Int.reduceNeg, Int.reduceNe, Tryd.TS, Tryd.ev_g0, Tryd.ev1_g0, Tryd.ev_g1, Tryd.ev1_g1, rep4]
    repeat' (first
      | with_reducible refine And.intro ?_ ?_
      | (with_reducible refine HCall_mono (wmod a m ha hm h0) ?_; rintro rs rfl
         simp -dsimp -implicitDefEqProofs (disch := omega) only [↓gpre, ↓bldS, ↓bld, ↓reduceIte, ↓gmore, gpost, gall, keepT, den, del, upd, dels, refs, hasTy, sArgs, aRefs, rvs, nodupB, memB, app, pTm, Ty.bytes, kbytes, Ty.zeroD, Ty.size, Ty.cmp, Ty.depth, Go.SE.look, reduceCtorEq, Nat.reduceAdd, Nat.reduceSub, Nat.reduceMul, Nat.reduceEqDiff, Nat.reduceLT, Nat.reduceLeDiff, Nat.reduceMod, Nat.reduceDiv, Nat.reducePow, Nat.reduceBEq, Int.reduceToNat, Int.reduceLE, Int.reduceLT, Int.reduceEq, Int.reduceAdd, Int.reduceMul, Int.reduceSub, Int.reduceNeg, Int.reduceNe, Tryd.TS, Tryd.ev_g0, Tryd.ev1_g0, Tryd.ev_g1, Tryd.ev1_g1, rep4])
      | (with_reducible refine HCall_mono (wmod b m hb hm h0) ?_; rintro rs rfl
         simp -dsimp -implicitDefEqProofs (disch := omega) only [↓gpre, ↓bldS, ↓bld, ↓reduceIte, ↓gmore, gpost, gall, keepT, den, del, upd, dels, refs, hasTy, sArgs, aRefs, rvs, nodupB, memB, app, pTm, Ty.bytes, kbytes, Ty.zeroD, Ty.size, Ty.cmp, Ty.depth, Go.SE.look, reduceCtorEq, Nat.reduceAdd, Nat.reduceSub, Nat.reduceMul, Nat.reduceEqDiff, Nat.reduceLT, Nat.reduceLeDiff, Nat.reduceMod, Nat.reduceDiv, Nat.reducePow, Nat.reduceBEq, Int.reduceToNat, Int.reduceLE, Int.reduceLT, Int.reduceEq, Int.reduceAdd, Int.reduceMul, Int.reduceSub, Int.reduceNeg, Int.reduceNe, Tryd.TS, Tryd.ev_g0, Tryd.ev1_g0, Tryd.ev_g1, Tryd.ev1_g1, rep4])
      | (with_reducible refine HCall_mono (wsub (a % m) (b % m) hma hmb) ?_; rintro rs rfl
         simp -dsimp -implicitDefEqProofs (disch := omega) only [↓gpre, ↓bldS, ↓bld, ↓reduceIte, ↓gmore, gpost, gall, keepT, den, del, upd, dels, refs, hasTy, sArgs, aRefs, rvs, nodupB, memB, app, pTm, Ty.bytes, kbytes, Ty.zeroD, Ty.size, Ty.cmp, Ty.depth, Go.SE.look, reduceCtorEq, Nat.reduceAdd, Nat.reduceSub, Nat.reduceMul, Nat.reduceEqDiff, Nat.reduceLT, Nat.reduceLeDiff, Nat.reduceMod, Nat.reduceDiv, Nat.reducePow, Nat.reduceBEq, Int.reduceToNat, Int.reduceLE, Int.reduceLT, Int.reduceEq, Int.reduceAdd, Int.reduceMul, Int.reduceSub, Int.reduceNeg, Int.reduceNe, Tryd.TS, Tryd.ev_g0, Tryd.ev1_g0, Tryd.ev_g1, Tryd.ev1_g1, rep4])
      | with_reducible exact True.intro
      | (first | (refine sub_ren w0 [(0, 0), (1, 1), (2, 2), (3, 3), (4, 8)] rfl ?_ rfl ?_ ?_; (focus (simp [keysLt]; done)); (focus (simp [renTm, Go.SE.look, renTV, renSV]; done)); (focus (simp [renOb, Go.SE.look, renSV]; done))) | (refine sub_ren w0 [(0, 0), (1, 1), (2, 2), (3, 3), (4, 6)] rfl ?_ rfl ?_ ?_; (focus (simp [keysLt]; done)); (focus (simp [renTm, Go.SE.look, renTV, renSV]; done)); (focus (simp [renOb, Go.SE.look, renSV]; done))) | (refine sub_ren w0 [(0, 0), (1, 1), (2, 2), (3, 3), (4, 5)] rfl ?_ rfl ?_ ?_; (focus (simp [keysLt]; done)); (focus (simp [renTm, Go.SE.look, renTV, renSV]; done)); (focus (simp [renOb, Go.SE.look, renSV]; done))) | (refine sub_ren w0 [(0, 0), (1, 1), (2, 2), (3, 3), (4, 4)] rfl ?_ rfl ?_ ?_; (focus (simp [keysLt]; done)); (focus (simp [renTm, Go.SE.look, renTV, renSV]; done)); (focus (simp [renOb, Go.SE.look, renSV]; done)))))
  simp -dsimp -implicitDefEqProofs (disch := omega) only [↓gpre, ↓bldS, ↓bld, ↓reduceIte, ↓gmore, gpost, gall, keepT, den, del, upd, dels, refs, hasTy, sArgs, aRefs, rvs, nodupB, memB, app, pTm, Ty.bytes, kbytes, Ty.zeroD, Ty.size, Ty.cmp, Ty.depth, Go.SE.look, reduceCtorEq, Nat.reduceAdd, Nat.reduceSub, Nat.reduceMul, Nat.reduceEqDiff, Nat.reduceLT, Nat.reduceLeDiff, Nat.reduceMod, Nat.reduceDiv, Nat.reducePow, Nat.reduceBEq, Int.reduceToNat, Int.reduceLE, Int.reduceLT, Int.reduceEq, Int.reduceAdd, Int.reduceMul, Int.reduceSub, Int.reduceNeg, Int.reduceNe, Tryd.TS, Tryd.ev_g0, Tryd.ev1_g0, Tryd.ev_g1, Tryd.ev1_g1]
  refine HIf_dec (a := ()) (b := ()) (fun hc => ?_) (fun hc => ?_)
  · simp -dsimp -implicitDefEqProofs (disch := omega) only [↓gpre, ↓bldS, ↓bld, ↓reduceIte, ↓gmore, gpost, gall, keepT, den, del, upd, dels, refs, hasTy, sArgs, aRefs, rvs, nodupB, memB, app, pTm, Ty.bytes, kbytes, Ty.zeroD, Ty.size, Ty.cmp, Ty.depth, Go.SE.look, reduceCtorEq, Nat.reduceAdd, Nat.reduceSub, Nat.reduceMul, Nat.reduceEqDiff, Nat.reduceLT, Nat.reduceLeDiff, Nat.reduceMod, Nat.reduceDiv, Nat.reducePow, Nat.reduceBEq, Int.reduceToNat, Int.reduceLE, Int.reduceLT, Int.reduceEq, Int.reduceAdd, Int.reduceMul, Int.reduceSub, Int.reduceNeg, Int.reduceNe, Tryd.TS, Tryd.ev_g0, Tryd.ev1_g0, Tryd.ev_g1, Tryd.ev1_g1]
    refine SCall.mono (wadd ((a % m + 115792089237316195423570985008687907853269984665640564039457584007913129639936 - b % m) % 115792089237316195423570985008687907853269984665640564039457584007913129639936) m (Nat.mod_lt _ (by omega)) hm) ?_; rintro rs rfl
    simp -dsimp -implicitDefEqProofs (disch := omega) only [↓gpre, ↓bldS, ↓bld, ↓reduceIte, ↓gmore, gpost, gall, keepT, den, del, upd, dels, refs, hasTy, sArgs, aRefs, rvs, nodupB, memB, app, pTm, Ty.bytes, kbytes, Ty.zeroD, Ty.size, Ty.cmp, Ty.depth, Go.SE.look, reduceCtorEq, Nat.reduceAdd, Nat.reduceSub, Nat.reduceMul, Nat.reduceEqDiff, Nat.reduceLT, Nat.reduceLeDiff, Nat.reduceMod, Nat.reduceDiv, Nat.reducePow, Nat.reduceBEq, Int.reduceToNat, Int.reduceLE, Int.reduceLT, Int.reduceEq, Int.reduceAdd, Int.reduceMul, Int.reduceSub, Int.reduceNeg, Int.reduceNe, Tryd.TS, Tryd.ev_g0, Tryd.ev1_g0, Tryd.ev_g1, Tryd.ev1_g1]
    rw [submod_lt h0 hc, show ((a % m + 115792089237316195423570985008687907853269984665640564039457584007913129639936 - b % m) % 115792089237316195423570985008687907853269984665640564039457584007913129639936 + m) % 115792089237316195423570985008687907853269984665640564039457584007913129639936 = a % m + m - b % m by omega]
  · simp -dsimp -implicitDefEqProofs (disch := omega) only [↓gpre, ↓bldS, ↓bld, ↓reduceIte, ↓gmore, gpost, gall, keepT, den, del, upd, dels, refs, hasTy, sArgs, aRefs, rvs, nodupB, memB, app, pTm, Ty.bytes, kbytes, Ty.zeroD, Ty.size, Ty.cmp, Ty.depth, Go.SE.look, reduceCtorEq, Nat.reduceAdd, Nat.reduceSub, Nat.reduceMul, Nat.reduceEqDiff, Nat.reduceLT, Nat.reduceLeDiff, Nat.reduceMod, Nat.reduceDiv, Nat.reducePow, Nat.reduceBEq, Int.reduceToNat, Int.reduceLE, Int.reduceLT, Int.reduceEq, Int.reduceAdd, Int.reduceMul, Int.reduceSub, Int.reduceNeg, Int.reduceNe, Tryd.TS, Tryd.ev_g0, Tryd.ev1_g0, Tryd.ev_g1, Tryd.ev1_g1]
    rw [submod_ge h0 (by omega), show (a % m + 115792089237316195423570985008687907853269984665640564039457584007913129639936 - b % m) % 115792089237316195423570985008687907853269984665640564039457584007913129639936 = a % m - b % m by omega]

set_option maxHeartbeats 2000000 in
theorem wsubmodRef (a b m : Nat) (ha : a < 115792089237316195423570985008687907853269984665640564039457584007913129639936) (hb : b < 115792089237316195423570985008687907853269984665640564039457584007913129639936) (hm : m < 115792089237316195423570985008687907853269984665640564039457584007913129639936) (h0 : 0 < m) : SCall Tryd.prog 92 [(.arr 4 (.int .u64), u256 a), (.arr 4 (.int .u64), u256 b), (.arr 4 (.int .u64), u256 m)] (fun rs => rs = [.d (.arr 4 (.int .u64)) (u256 ((a % m + m - b % m) % m))]) := by
  have ham : a % m < m := Nat.mod_lt _ h0
  have hbm : b % m < m := Nat.mod_lt _ h0
  refine scall_intro (n := 32) (rl := [.cell 6 45]) (us := [45]) Tryd.hT Tryd.func92 rfl rfl rfl rfl rfl (Nat.le_of_ble_eq_true rfl) ?_
  intro w0
  simp -dsimp -implicitDefEqProofs (disch := omega) only [↓gpre, ↓bldS, ↓bld, ↓reduceIte, ↓gmore, gpost, gall, keepT, den, del, upd, dels, refs, hasTy, sArgs, aRefs, rvs, nodupB, memB, app, pTm, Ty.bytes, kbytes, Ty.zeroD, Ty.size, Ty.cmp, Ty.depth, Go.SE.look, reduceCtorEq, Nat.reduceAdd, Nat.reduceSub, Nat.reduceMul, Nat.reduceEqDiff, Nat.reduceLT, Nat.reduceLeDiff, Nat.reduceMod, Nat.reduceDiv, Nat.reducePow, Nat.reduceBEq, Int.reduceToNat, Int.reduceLE, Int.reduceLT, Int.reduceEq, Int.reduceAdd, Int.reduceMul, Int.reduceSub, Int.reduceNeg, Int.reduceNe, Tryd.TS, Tryd.ev_g0, Tryd.ev1_g0, Tryd.ev_g1, Tryd.ev1_g1, rep4]
  refine SCall.mono (wzeroRef m hm) ?_; rintro rs rfl
  simp -dsimp -implicitDefEqProofs (disch := omega) only [↓gpre, ↓bldS, ↓bld, ↓reduceIte, ↓gmore, gpost, gall, keepT, den, del, upd, dels, refs, hasTy, sArgs, aRefs, rvs, nodupB, memB, app, pTm, Ty.bytes, kbytes, Ty.zeroD, Ty.size, Ty.cmp, Ty.depth, Go.SE.look, reduceCtorEq, Nat.reduceAdd, Nat.reduceSub, Nat.reduceMul, Nat.reduceEqDiff, Nat.reduceLT, Nat.reduceLeDiff, Nat.reduceMod, Nat.reduceDiv, Nat.reducePow, Nat.reduceBEq, Int.reduceToNat, Int.reduceLE, Int.reduceLT, Int.reduceEq, Int.reduceAdd, Int.reduceMul, Int.reduceSub, Int.reduceNeg, Int.reduceNe, Tryd.TS, Tryd.ev_g0, Tryd.ev1_g0, Tryd.ev_g1, Tryd.ev1_g1]
  refine HIf_dec (a := ()) (b := ()) (fun hz => ?_) (fun hz => ?_)
  · omega
  simp -dsimp -implicitDefEqProofs (disch := omega) only [↓gpre, ↓bldS, ↓bld, ↓reduceIte, ↓gmore, gpost, gall, keepT, den, del, upd, dels, refs, hasTy, sArgs, aRefs, rvs, nodupB, memB, app, pTm, Ty.bytes, kbytes, Ty.zeroD, Ty.size, Ty.cmp, Ty.depth, Go.SE.look, reduceCtorEq, Nat.reduceAdd, Nat.reduceSub, Nat.reduceMul, Nat.reduceEqDiff, Nat.reduceLT, Nat.reduceLeDiff, Nat.reduceMod, Nat.reduceDiv, Nat.reducePow, Nat.reduceBEq, Int.reduceToNat, Int.reduceLE, Int.reduceLT, Int.reduceEq, Int.reduceAdd, Int.reduceMul, Int.reduceSub, Int.reduceNeg, Int.reduceNe, Tryd.TS, Tryd.ev_g0, Tryd.ev1_g0, Tryd.ev_g1, Tryd.ev1_g1]
  refine sdraw Tryd.hT (by kernel_rfl) [6, 7] [0, 1, 3, 4, 2, 5, 6, 7] (by kernel_rfl) (by kernel_rfl) (by kernel_rfl) ?_; simp only [pickO, List.getElem?_toArray, List.getElem?_cons_zero, List.getElem?_cons_succ]
  simp -dsimp -implicitDefEqProofs (disch := omega) only [↓gpre, ↓bldS, ↓bld, ↓reduceIte, ↓gmore, gpost, gall, keepT, den, del, upd, dels, refs, hasTy, sArgs, aRefs, rvs, nodupB, memB, app, pTm, Ty.bytes, kbytes, Ty.zeroD, Ty.size, Ty.cmp, Ty.depth, Go.SE.look, reduceCtorEq, Nat.reduceAdd, Nat.reduceSub, Nat.reduceMul, Nat.reduceEqDiff, Nat.reduceLT, Nat.reduceLeDiff, Nat.reduceMod, Nat.reduceDiv, Nat.reducePow, Nat.reduceBEq, Int.reduceToNat, Int.reduceLE, Int.reduceLT, Int.reduceEq, Int.reduceAdd, Int.reduceMul, Int.reduceSub, Int.reduceNeg, Int.reduceNe, Tryd.TS, Tryd.ev_g0, Tryd.ev1_g0, Tryd.ev_g1, Tryd.ev1_g1]
  refine SCall.mono (wreduceRef a m ha hm h0) ?_; rintro rs rfl
  simp -dsimp -implicitDefEqProofs (disch := omega) only [↓gpre, ↓bldS, ↓bld, ↓reduceIte, ↓gmore, gpost, gall, keepT, den, del, upd, dels, refs, hasTy, sArgs, aRefs, rvs, nodupB, memB, app, pTm, Ty.bytes, kbytes, Ty.zeroD, Ty.size, Ty.cmp, Ty.depth, Go.SE.look, reduceCtorEq, Nat.reduceAdd, Nat.reduceSub, Nat.reduceMul, Nat.reduceEqDiff, Nat.reduceLT, Nat.reduceLeDiff, Nat.reduceMod, Nat.reduceDiv, Nat.reducePow, Nat.reduceBEq, Int.reduceToNat, Int.reduceLE, Int.reduceLT, Int.reduceEq, Int.reduceAdd, Int.reduceMul, Int.reduceSub, Int.reduceNeg, Int.reduceNe, Tryd.TS, Tryd.ev_g0, Tryd.ev1_g0, Tryd.ev_g1, Tryd.ev1_g1]
  refine SCall.mono (wreduceRef b m hb hm h0) ?_; rintro rs rfl
  simp -dsimp -implicitDefEqProofs (disch := omega) only [↓gpre, ↓bldS, ↓bld, ↓reduceIte, ↓gmore, gpost, gall, keepT, den, del, upd, dels, refs, hasTy, sArgs, aRefs, rvs, nodupB, memB, app, pTm, Ty.bytes, kbytes, Ty.zeroD, Ty.size, Ty.cmp, Ty.depth, Go.SE.look, reduceCtorEq, Nat.reduceAdd, Nat.reduceSub, Nat.reduceMul, Nat.reduceEqDiff, Nat.reduceLT, Nat.reduceLeDiff, Nat.reduceMod, Nat.reduceDiv, Nat.reducePow, Nat.reduceBEq, Int.reduceToNat, Int.reduceLE, Int.reduceLT, Int.reduceEq, Int.reduceAdd, Int.reduceMul, Int.reduceSub, Int.reduceNeg, Int.reduceNe, Tryd.TS, Tryd.ev_g0, Tryd.ev1_g0, Tryd.ev_g1, Tryd.ev1_g1]
  refine SCall.mono (wsubRef (a % m) (b % m) (by omega) (by omega)) ?_; rintro rs rfl
  simp -dsimp -implicitDefEqProofs (disch := omega) only [↓gpre, ↓bldS, ↓bld, ↓reduceIte, ↓gmore, gpost, gall, keepT, den, del, upd, dels, refs, hasTy, sArgs, aRefs, rvs, nodupB, memB, app, pTm, Ty.bytes, kbytes, Ty.zeroD, Ty.size, Ty.cmp, Ty.depth, Go.SE.look, reduceCtorEq, Nat.reduceAdd, Nat.reduceSub, Nat.reduceMul, Nat.reduceEqDiff, Nat.reduceLT, Nat.reduceLeDiff, Nat.reduceMod, Nat.reduceDiv, Nat.reducePow, Nat.reduceBEq, Int.reduceToNat, Int.reduceLE, Int.reduceLT, Int.reduceEq, Int.reduceAdd, Int.reduceMul, Int.reduceSub, Int.reduceNeg, Int.reduceNe, Tryd.TS, Tryd.ev_g0, Tryd.ev1_g0, Tryd.ev_g1, Tryd.ev1_g1]
  refine HIf_dec (a := ()) (b := ()) (fun hc => ?_) (fun hc => ?_)
  · simp -dsimp -implicitDefEqProofs (disch := omega) only [↓gpre, ↓bldS, ↓bld, ↓reduceIte, ↓gmore, gpost, gall, keepT, den, del, upd, dels, refs, hasTy, sArgs, aRefs, rvs, nodupB, memB, app, pTm, Ty.bytes, kbytes, Ty.zeroD, Ty.size, Ty.cmp, Ty.depth, Go.SE.look, reduceCtorEq, Nat.reduceAdd, Nat.reduceSub, Nat.reduceMul, Nat.reduceEqDiff, Nat.reduceLT, Nat.reduceLeDiff, Nat.reduceMod, Nat.reduceDiv, Nat.reducePow, Nat.reduceBEq, Int.reduceToNat, Int.reduceLE, Int.reduceLT, Int.reduceEq, Int.reduceAdd, Int.reduceMul, Int.reduceSub, Int.reduceNeg, Int.reduceNe, Tryd.TS, Tryd.ev_g0, Tryd.ev1_g0, Tryd.ev_g1, Tryd.ev1_g1]
    refine SCall.mono (waddRef ((a % m + 115792089237316195423570985008687907853269984665640564039457584007913129639936 - b % m) % 115792089237316195423570985008687907853269984665640564039457584007913129639936) m (Nat.mod_lt _ (by omega)) hm) ?_; rintro rs rfl
    simp -dsimp -implicitDefEqProofs (disch := omega) only [↓gpre, ↓bldS, ↓bld, ↓reduceIte, ↓gmore, gpost, gall, keepT, den, del, upd, dels, refs, hasTy, sArgs, aRefs, rvs, nodupB, memB, app, pTm, Ty.bytes, kbytes, Ty.zeroD, Ty.size, Ty.cmp, Ty.depth, Go.SE.look, reduceCtorEq, Nat.reduceAdd, Nat.reduceSub, Nat.reduceMul, Nat.reduceEqDiff, Nat.reduceLT, Nat.reduceLeDiff, Nat.reduceMod, Nat.reduceDiv, Nat.reducePow, Nat.reduceBEq, Int.reduceToNat, Int.reduceLE, Int.reduceLT, Int.reduceEq, Int.reduceAdd, Int.reduceMul, Int.reduceSub, Int.reduceNeg, Int.reduceNe, Tryd.TS, Tryd.ev_g0, Tryd.ev1_g0, Tryd.ev_g1, Tryd.ev1_g1]
    rw [submod_lt h0 hc, show ((a % m + 115792089237316195423570985008687907853269984665640564039457584007913129639936 - b % m) % 115792089237316195423570985008687907853269984665640564039457584007913129639936 + m) % 115792089237316195423570985008687907853269984665640564039457584007913129639936 = a % m + m - b % m by omega]
  · simp -dsimp -implicitDefEqProofs (disch := omega) only [↓gpre, ↓bldS, ↓bld, ↓reduceIte, ↓gmore, gpost, gall, keepT, den, del, upd, dels, refs, hasTy, sArgs, aRefs, rvs, nodupB, memB, app, pTm, Ty.bytes, kbytes, Ty.zeroD, Ty.size, Ty.cmp, Ty.depth, Go.SE.look, reduceCtorEq, Nat.reduceAdd, Nat.reduceSub, Nat.reduceMul, Nat.reduceEqDiff, Nat.reduceLT, Nat.reduceLeDiff, Nat.reduceMod, Nat.reduceDiv, Nat.reducePow, Nat.reduceBEq, Int.reduceToNat, Int.reduceLE, Int.reduceLT, Int.reduceEq, Int.reduceAdd, Int.reduceMul, Int.reduceSub, Int.reduceNeg, Int.reduceNe, Tryd.TS, Tryd.ev_g0, Tryd.ev1_g0, Tryd.ev_g1, Tryd.ev1_g1]
    rw [submod_ge h0 (by omega), show (a % m + 115792089237316195423570985008687907853269984665640564039457584007913129639936 - b % m) % 115792089237316195423570985008687907853269984665640564039457584007913129639936 = a % m - b % m by omega]

theorem mulmod_lt {a b m : Nat} (h0 : 0 < m) (hm : m < 115792089237316195423570985008687907853269984665640564039457584007913129639936) : a % m * (b % m) / 115792089237316195423570985008687907853269984665640564039457584007913129639936 < m := by
  have h1 := Nat.mod_lt a h0
  have h2 := Nat.mod_lt b h0
  refine Nat.div_lt_of_lt_mul ?_
  have : a % m * (b % m) ≤ a % m * m := Nat.mul_le_mul_left _ (Nat.le_of_lt h2)
  have h3 : a % m * m < 115792089237316195423570985008687907853269984665640564039457584007913129639936 * m := Nat.mul_lt_mul_of_pos_right (by omega) h0
  omega

set_option maxHeartbeats 2000000 in
theorem wmulmod (a b m : Nat) (ha : a < 115792089237316195423570985008687907853269984665640564039457584007913129639936) (hb : b < 115792089237316195423570985008687907853269984665640564039457584007913129639936) (hm : m < 115792089237316195423570985008687907853269984665640564039457584007913129639936) (h0 : 0 < m) : SCall Tryd.prog 78 [(.arr 4 (.int .u64), u256 a), (.arr 4 (.int .u64), u256 b), (.arr 4 (.int .u64), u256 m)] (fun rs => rs = [.d (.arr 4 (.int .u64)) (u256 (a * b % m))]) := by
  have ham : a % m < m := Nat.mod_lt _ h0
  have hbm : b % m < m := Nat.mod_lt _ h0
  have hma : a % m < 115792089237316195423570985008687907853269984665640564039457584007913129639936 := by omega
  have hmb : b % m < 115792089237316195423570985008687907853269984665640564039457584007913129639936 := by omega
  refine scall_intro (n := 31) (rl := [.cell 6 45]) (us := [45]) Tryd.hT Tryd.func78 rfl rfl rfl rfl rfl (Nat.le_of_ble_eq_true rfl) ?_
  intro w0
  simp -dsimp -implicitDefEqProofs (disch := omega) only [↓gpre, ↓bldS, ↓bld, ↓reduceIte, ↓gmore, gpost, gall, keepT, den, del, upd, dels, refs, hasTy, sArgs, aRefs, rvs, nodupB, memB, app, pTm, Ty.bytes, kbytes, Ty.zeroD, Ty.size, Ty.cmp, Ty.depth, Go.SE.look, reduceCtorEq, Nat.reduceAdd, Nat.reduceSub, Nat.reduceMul, Nat.reduceEqDiff, Nat.reduceLT, Nat.reduceLeDiff, Nat.reduceMod, Nat.reduceDiv, Nat.reducePow, Nat.reduceBEq, Int.reduceToNat, Int.reduceLE, Int.reduceLT, Int.reduceEq, Int.reduceAdd, Int.reduceMul, Int.reduceSub, Int.reduceNeg, Int.reduceNe, Tryd.TS, Tryd.ev_g0, Tryd.ev1_g0, Tryd.ev_g1, Tryd.ev1_g1, rep4]
  refine sdrawM Tryd.hT (by kernel_rfl) [12, 13] (.alt 0 (.alt 1 (.alt 3 (.alt 4 (.alt 2 (.alt 5 (.alt 6 (.alt 7 (.alt 8 (.alt 9 (.alt 10 (.alt 11 (.alt 12 (.alt 13 .nil .nil) .nil) .nil) (.alt 11 (.alt 10 (.alt 12 (.alt 13 .nil .nil) .nil) .nil) .nil)) .nil) .nil) .nil) (.alt 10 (.alt 6 (.alt 7 (.alt 8 (.alt 9 (.alt 11 (.alt 12 (.alt 13 .nil .nil) .nil) .nil) .nil) .nil) .nil) (.alt 11 (.alt 6 (.alt 7 (.alt 8 (.alt 9 (.alt 12 (.alt 13 .nil .nil) .nil) .nil) .nil) .nil) .nil) .nil)) (.alt 11 (.alt 6 (.alt 7 (.alt 8 (.alt 9 (.alt 10 (.alt 12 (.alt 13 .nil .nil) .nil) .nil) .nil) .nil) .nil) (.alt 10 (.alt 6 (.alt 7 (.alt 8 (.alt 9 (.alt 12 (.alt 13 .nil .nil) .nil) .nil) .nil) .nil) .nil) .nil)) .nil))) (.alt 10 (.alt 5 (.alt 6 (.alt 7 (.alt 8 (.alt 9 (.alt 11 (.alt 12 (.alt 13 .nil .nil) .nil) .nil) .nil) .nil) .nil) (.alt 11 (.alt 6 (.alt 7 (.alt 8 (.alt 9 (.alt 12 (.alt 13 .nil .nil) .nil) .nil) .nil) .nil) .nil) .nil)) (.alt 11 (.alt 5 (.alt 6 (.alt 7 (.alt 8 (.alt 9 (.alt 12 (.alt 13 .nil .nil) .nil) .nil) .nil) .nil) .nil) .nil) .nil)) (.alt 11 (.alt 5 (.alt 6 (.alt 7 (.alt 8 (.alt 9 (.alt 10 (.alt 12 (.alt 13 .nil .nil) .nil) .nil) .nil) .nil) .nil) (.alt 10 (.alt 6 (.alt 7 (.alt 8 (.alt 9 (.alt 12 (.alt 13 .nil .nil) .nil) .nil) .nil) .nil) .nil) .nil)) (.alt 10 (.alt 5 (.alt 6 (.alt 7 (.alt 8 (.alt 9 (.alt 12 (.alt 13 .nil .nil) .nil) .nil) .nil) .nil) .nil) .nil) .nil)) .nil))) (.alt 10 (.alt 2 (.alt 5 (.alt 6 (.alt 7 (.alt 8 (.alt 9 (.alt 11 (.alt 12 (.alt 13 .nil .nil) .nil) .nil) .nil) .nil) .nil) (.alt 11 (.alt 6 (.alt 7 (.alt 8 (.alt 9 (.alt 12 (.alt 13 .nil .nil) .nil) .nil) .nil) .nil) .nil) .nil)) (.alt 11 (.alt 5 (.alt 6 (.alt 7 (.alt 8 (.alt 9 (.alt 12 (.alt 13 .nil .nil) .nil) .nil) .nil) .nil) .nil) .nil) .nil)) (.alt 11 (.alt 2 (.alt 5 (.alt 6 (.alt 7 (.alt 8 (.alt 9 (.alt 12 (.alt 13 .nil .nil) .nil) .nil) .nil) .nil) .nil) .nil) .nil) .nil)) (.alt 11 (.alt 2 (.alt 5 (.alt 6 (.alt 7 (.alt 8 (.alt 9 (.alt 10 (.alt 12 (.alt 13 .nil .nil) .nil) .nil) .nil) .nil) .nil) (.alt 10 (.alt 6 (.alt 7 (.alt 8 (.alt 9 (.alt 12 (.alt 13 .nil .nil) .nil) .nil) .nil) .nil) .nil) .nil)) (.alt 10 (.alt 5 (.alt 6 (.alt 7 (.alt 8 (.alt 9 (.alt 12 (.alt 13 .nil .nil) .nil) .nil) .nil) .nil) .nil) .nil) .nil)) (.alt 10 (.alt 2 (.alt 5 (.alt 6 (.alt 7 (.alt 8 (.alt 9 (.alt 12 (.alt 13 .nil .nil) .nil) .nil) .nil) .nil) .nil) .nil) .nil) .nil)) .nil))) .nil) .nil) .nil) .nil) ⟨31, [(3, .v (.ptr 0 [])), (4, .v (.ptr 1 [])), (5, .v (.ptr 2 [])), (6, .v (.ptr 3 [])), (7, .v (.ptr 4 [])), (8, .v (.ptr 5 []))], [(0, ⟨.arr 4 (.int .u64), .d (.arr 4 (.int .u64)) (u256 a)⟩), (1, ⟨.arr 4 (.int .u64), .d (.arr 4 (.int .u64)) (u256 b)⟩), (2, ⟨.arr 4 (.int .u64), .d (.arr 4 (.int .u64)) (u256 m)⟩), (3, ⟨.arr 4 (.int .u64), .d (.arr 4 (.int .u64)) (.l [.n 0, .n 0, .n 0, .n 0])⟩), (4, ⟨.arr 4 (.int .u64), .d (.arr 4 (.int .u64)) (u256 (a % m * (b % m) / 115792089237316195423570985008687907853269984665640564039457584007913129639936))⟩), (5, ⟨.arr 4 (.int .u64), .d (.arr 4 (.int .u64)) (u256 (a % m * (b % m) % 115792089237316195423570985008687907853269984665640564039457584007913129639936))⟩)], 6⟩ (by kernel_rfl) (by kernel_rfl) ?_ ?_
  · simp only [tr_alt, tr_nil, tr_nil', pickO, List.getElem?_toArray, List.getElem?_cons_zero, List.getElem?_cons_succ]
    simp -dsimp -implicitDefEqProofs (disch := omega) only [↓gpre, ↓bldS, ↓bld, ↓reduceIte, ↓gmore, gpost, gall, keepT, den, del, upd, dels, refs, hasTy, sArgs, aRefs, rvs, nodupB, memB, app, pTm, Ty.bytes, kbytes, Ty.zeroD, Ty.size, Ty.cmp, Ty.depth, Go.SE.look, reduceCtorEq, Nat.reduceAdd, Nat.reduceSub, Nat.reduceMul, Nat.reduceEqDiff, Nat.reduceLT, Nat.reduceLeDiff, Nat.reduceMod, Nat.reduceDiv, Nat.reducePow, Nat.reduceBEq, Int.reduceToNat, Int.reduceLE, Int.reduceLT, Int.reduceEq, Int.reduceAdd, Int.reduceMul, Int.reduceSub, Int.reduceNeg, Int.reduceNe, Tryd.TS, Tryd.ev_g0, Tryd.ev1_g0, Tryd.ev_g1, Tryd.ev1_g1, rep4]
    repeat' (first
      | with_reducible refine And.intro ?_ ?_
      | (with_reducible refine HCall_mono (wmod a m ha hm h0) ?_; rintro rs rfl
         simp -dsimp -implicitDefEqProofs (disch := omega) only [↓gpre, ↓bldS, ↓bld, ↓reduceIte, ↓gmore, gpost, gall, keepT, den, del, upd, dels, refs, hasTy, sArgs, aRefs, rvs, nodupB, memB, app, pTm, Ty.bytes, kbytes, Ty.zeroD, Ty.size, Ty.cmp, Ty.depth, Go.SE.look, reduceCtorEq, Nat.reduceAdd, Nat.reduceSub, Nat.reduceMul, Nat.reduceEqDiff, Nat.reduceLT, Nat.reduceLeDiff, Nat.reduceMod, Nat.reduceDiv, Nat.reducePow, Nat.reduceBEq, Int.reduceToNat, Int.reduceLE, Int.reduceLT, Int.reduceEq, Int.reduceAdd, Int.reduceMul, Int.reduceSub, Int.reduceNeg, Int.reduceNe, Tryd.TS, Tryd.ev_g0, Tryd.ev1_g0, Tryd.ev_g1, Tryd.ev1_g1, rep4])
      | (with_reducible refine HCall_mono (wmod b m hb hm h0) ?_; rintro rs rfl
         simp -dsimp -implicitDefEqProofs (disch := omega) only [↓gpre, ↓bldS, ↓bld, ↓reduceIte, ↓gmore, gpost, gall, keepT, den, del, upd, dels, refs, hasTy, sArgs, aRefs, rvs, nodupB, memB, app, pTm, Ty.bytes, kbytes, Ty.zeroD, Ty.size, Ty.cmp, Ty.depth, Go.SE.look, reduceCtorEq, Nat.reduceAdd, Nat.reduceSub, Nat.reduceMul, Nat.reduceEqDiff, Nat.reduceLT, Nat.reduceLeDiff, Nat.reduceMod, Nat.reduceDiv, Nat.reducePow, Nat.reduceBEq, Int.reduceToNat, Int.reduceLE, Int.reduceLT, Int.reduceEq, Int.reduceAdd, Int.reduceMul, Int.reduceSub, Int.reduceNeg, Int.reduceNe, Tryd.TS, Tryd.ev_g0, Tryd.ev1_g0, Tryd.ev_g1, Tryd.ev1_g1, rep4])
      | (with_reducible refine HCall_mono (wmul (a % m) (b % m) hma hmb) ?_; rintro rs rfl
         simp -dsimp -implicitDefEqProofs (disch := omega) only [↓gpre, ↓bldS, ↓bld, ↓reduceIte, ↓gmore, gpost, gall, keepT, den, del, upd, dels, refs, hasTy, sArgs, aRefs, rvs, nodupB, memB, app, pTm, Ty.bytes, kbytes, Ty.zeroD, Ty.size, Ty.cmp, Ty.depth, Go.SE.look, reduceCtorEq, Nat.reduceAdd, Nat.reduceSub, Nat.reduceMul, Nat.reduceEqDiff, Nat.reduceLT, Nat.reduceLeDiff, Nat.reduceMod, Nat.reduceDiv, Nat.reducePow, Nat.reduceBEq, Int.reduceToNat, Int.reduceLE, Int.reduceLT, Int.reduceEq, Int.reduceAdd, Int.reduceMul, Int.reduceSub, Int.reduceNeg, Int.reduceNe, Tryd.TS, Tryd.ev_g0, Tryd.ev1_g0, Tryd.ev_g1, Tryd.ev1_g1, rep4])
      | with_reducible exact True.intro
      | (first | (refine sub_ren w0 [(0, 0), (1, 1), (2, 2), (3, 3), (4, 8), (5, 9)] rfl ?_ rfl ?_ ?_; (focus (simp [keysLt]; done)); (focus (simp [renTm, Go.SE.look, renTV, renSV]; done)); (focus (simp [renOb, Go.SE.look, renSV]; done))) | (refine sub_ren w0 [(0, 0), (1, 1), (2, 2), (3, 3), (4, 9), (5, 8)] rfl ?_ rfl ?_ ?_; (focus (simp [keysLt]; done)); (focus (simp [renTm, Go.SE.look, renTV, renSV]; done)); (focus (simp [renOb, Go.SE.look, renSV]; done))) | (refine sub_ren w0 [(0, 0), (1, 1), (2, 2), (3, 3), (4, 6), (5, 9)] rfl ?_ rfl ?_ ?_; (focus (simp [keysLt]; done)); (focus (simp [renTm, Go.SE.look, renTV, renSV]; done)); (focus (simp [renOb, Go.SE.look, renSV]; done))) | (refine sub_ren w0 [(0, 0), (1, 1), (2, 2), (3, 3), (4, 6), (5, 7)] rfl ?_ rfl ?_ ?_; (focus (simp [keysLt]; done)); (focus (simp [renTm, Go.SE.look, renTV, renSV]; done)); (focus (simp [renOb, Go.SE.look, renSV]; done))) | (refine sub_ren w0 [(0, 0), (1, 1), (2, 2), (3, 3), (4, 9), (5, 6)] rfl ?_ rfl ?_ ?_; (focus (simp [keysLt]; done)); (focus (simp [renTm, Go.SE.look, renTV, renSV]; done)); (focus (simp [renOb, Go.SE.look, renSV]; done))) | (refine sub_ren w0 [(0, 0), (1, 1), (2, 2), (3, 3), (4, 7), (5, 6)] rfl ?_ rfl ?_ ?_; (focus (simp [keysLt]; done)); (focus (simp [renTm, Go.SE.look, renTV, renSV]; done)); (focus (simp [renOb, Go.SE.look, renSV]; done))) | (refine sub_ren w0 [(0, 0), (1, 1), (2, 2), (3, 3), (4, 5), (5, 9)] rfl ?_ rfl ?_ ?_; (focus (simp [keysLt]; done)); (focus (simp [renTm, Go.SE.look, renTV, renSV]; done)); (focus (simp [renOb, Go.SE.look, renSV]; done))) | (refine sub_ren w0 [(0, 0), (1, 1), (2, 2), (3, 3), (4, 5), (5, 7)] rfl ?_ rfl ?_ ?_; (focus (simp [keysLt]; done)); (focus (simp [renTm, Go.SE.look, renTV, renSV]; done)); (focus (simp [renOb, Go.SE.look, renSV]; done))) | (refine sub_ren w0 [(0, 0), (1, 1), (2, 2), (3, 3), (4, 5), (5, 6)] rfl ?_ rfl ?_ ?_; (focus (simp [keysLt]; done)); (focus (simp [renTm, Go.SE.look, renTV, renSV]; done)); (focus (simp [renOb, Go.SE.look, renSV]; done))) | (refine sub_ren w0 [(0, 0), (1, 1), (2, 2), (3, 3), (4, 9), (5, 5)] rfl ?_ rfl ?_ ?_; (focus (simp [keysLt]; done)); (focus (simp [renTm, Go.SE.look, renTV, renSV]; done)); (focus (simp [renOb, Go.SE.look, renSV]; done))) | (refine sub_ren w0 [(0, 0), (1, 1), (2, 2), (3, 3), (4, 7), (5, 5)] rfl ?_ rfl ?_ ?_; (focus (simp [keysLt]; done)); (focus (simp [renTm, Go.SE.look, renTV, renSV]; done)); (focus (simp [renOb, Go.SE.look, renSV]; done))) | (refine sub_ren w0 [(0, 0), (1, 1), (2, 2), (3, 3), (4, 6), (5, 5)] rfl ?_ rfl ?_ ?_; (focus (simp [keysLt]; done)); (focus (simp [renTm, Go.SE.look, renTV, renSV]; done)); (focus (simp [renOb, Go.SE.look, renSV]; done))) | (refine sub_ren w0 [(0, 0), (1, 1), (2, 2), (3, 3), (4, 4), (5, 9)] rfl ?_ rfl ?_ ?_; (focus (simp [keysLt]; done)); (focus (simp [renTm, Go.SE.look, renTV, renSV]; done)); (focus (simp [renOb, Go.SE.look, renSV]; done))) | (refine sub_ren w0 [(0, 0), (1, 1), (2, 2), (3, 3), (4, 4), (5, 7)] rfl ?_ rfl ?_ ?_; (focus (simp [keysLt]; done)); (focus (simp [renTm, Go.SE.look, renTV, renSV]; done)); (focus (simp [renOb, Go.SE.look, renSV]; done))) | (refine sub_ren w0 [(0, 0), (1, 1), (2, 2), (3, 3), (4, 4), (5, 6)] rfl ?_ rfl ?_ ?_; (focus (simp [keysLt]; done)); (focus (simp [renTm, Go.SE.look, renTV, renSV]; done)); (focus (simp [renOb, Go.SE.look, renSV]; done))) | (refine sub_ren w0 [(0, 0), (1, 1), (2, 2), (3, 3), (4, 4), (5, 5)] rfl ?_ rfl ?_ ?_; (focus (simp [keysLt]; done)); (focus (simp [renTm, Go.SE.look, renTV, renSV]; done)); (focus (simp [renOb, Go.SE.look, renSV]; done))) | (refine sub_ren w0 [(0, 0), (1, 1), (2, 2), (3, 3), (4, 9), (5, 4)] rfl ?_ rfl ?_ ?_; (focus (simp [keysLt]; done)); (focus (simp [renTm, Go.SE.look, renTV, renSV]; done)); (focus (simp [renOb, Go.SE.look, renSV]; done))) | (refine sub_ren w0 [(0, 0), (1, 1), (2, 2), (3, 3), (4, 7), (5, 4)] rfl ?_ rfl ?_ ?_; (focus (simp [keysLt]; done)); (focus (simp [renTm, Go.SE.look, renTV, renSV]; done)); (focus (simp [renOb, Go.SE.look, renSV]; done))) | (refine sub_ren w0 [(0, 0), (1, 1), (2, 2), (3, 3), (4, 6), (5, 4)] rfl ?_ rfl ?_ ?_; (focus (simp [keysLt]; done)); (focus (simp [renTm, Go.SE.look, renTV, renSV]; done)); (focus (simp [renOb, Go.SE.look, renSV]; done))) | (refine sub_ren w0 [(0, 0), (1, 1), (2, 2), (3, 3), (4, 5), (5, 4)] rfl ?_ rfl ?_ ?_; (focus (simp [keysLt]; done)); (focus (simp [renTm, Go.SE.look, renTV, renSV]; done)); (focus (simp [renOb, Go.SE.look, renSV]; done)))))
  simp -dsimp -implicitDefEqProofs (disch := omega) only [↓gpre, ↓bldS, ↓bld, ↓reduceIte, ↓gmore, gpost, gall, keepT, den, del, upd, dels, refs, hasTy, sArgs, aRefs, rvs, nodupB, memB, app, pTm, Ty.bytes, kbytes, Ty.zeroD, Ty.size, Ty.cmp, Ty.depth, Go.SE.look, reduceCtorEq, Nat.reduceAdd, Nat.reduceSub, Nat.reduceMul, Nat.reduceEqDiff, Nat.reduceLT, Nat.reduceLeDiff, Nat.reduceMod, Nat.reduceDiv, Nat.reducePow, Nat.reduceBEq, Int.reduceToNat, Int.reduceLE, Int.reduceLT, Int.reduceEq, Int.reduceAdd, Int.reduceMul, Int.reduceSub, Int.reduceNeg, Int.reduceNe, Tryd.TS, Tryd.ev_g0, Tryd.ev1_g0, Tryd.ev_g1, Tryd.ev1_g1, rep4]
  refine SCall.mono (wdiv (a % m * (b % m) / 115792089237316195423570985008687907853269984665640564039457584007913129639936) (a % m * (b % m) % 115792089237316195423570985008687907853269984665640564039457584007913129639936) m (mulmod_lt h0 hm) (Nat.mod_lt _ (by omega)) hm) ?_; rintro rs rfl
  simp -dsimp -implicitDefEqProofs (disch := omega) only [↓gpre, ↓bldS, ↓bld, ↓reduceIte, ↓gmore, gpost, gall, keepT, den, del, upd, dels, refs, hasTy, sArgs, aRefs, rvs, nodupB, memB, app, pTm, Ty.bytes, kbytes, Ty.zeroD, Ty.size, Ty.cmp, Ty.depth, Go.SE.look, reduceCtorEq, Nat.reduceAdd, Nat.reduceSub, Nat.reduceMul, Nat.reduceEqDiff, Nat.reduceLT, Nat.reduceLeDiff, Nat.reduceMod, Nat.reduceDiv, Nat.reducePow, Nat.reduceBEq, Int.reduceToNat, Int.reduceLE, Int.reduceLT, Int.reduceEq, Int.reduceAdd, Int.reduceMul, Int.reduceSub, Int.reduceNeg, Int.reduceNe, Tryd.TS, Tryd.ev_g0, Tryd.ev1_g0, Tryd.ev_g1, Tryd.ev1_g1]
  rw [Nat.mul_comm (a % m * (b % m) / 115792089237316195423570985008687907853269984665640564039457584007913129639936), Nat.div_add_mod, ← Nat.mul_mod]

set_option maxHeartbeats 2000000 in
theorem wmulmodRef (a b m : Nat) (ha : a < 115792089237316195423570985008687907853269984665640564039457584007913129639936) (hb : b < 115792089237316195423570985008687907853269984665640564039457584007913129639936) (hm : m < 115792089237316195423570985008687907853269984665640564039457584007913129639936) (h0 : 0 < m) : SCall Tryd.prog 90 [(.arr 4 (.int .u64), u256 a), (.arr 4 (.int .u64), u256 b), (.arr 4 (.int .u64), u256 m)] (fun rs => rs = [.d (.arr 4 (.int .u64)) (u256 (a * b % m))]) := by
  have ham : a % m < m := Nat.mod_lt _ h0
  have hbm : b % m < m := Nat.mod_lt _ h0
  have hma : a % m < 115792089237316195423570985008687907853269984665640564039457584007913129639936 := by omega
  have hmb : b % m < 115792089237316195423570985008687907853269984665640564039457584007913129639936 := by omega
  refine scall_intro (n := 34) (rl := [.cell 6 45]) (us := [45]) Tryd.hT Tryd.func90 rfl rfl rfl rfl rfl (Nat.le_of_ble_eq_true rfl) ?_
  intro w0
  simp -dsimp -implicitDefEqProofs (disch := omega) only [↓gpre, ↓bldS, ↓bld, ↓reduceIte, ↓gmore, gpost, gall, keepT, den, del, upd, dels, refs, hasTy, sArgs, aRefs, rvs, nodupB, memB, app, pTm, Ty.bytes, kbytes, Ty.zeroD, Ty.size, Ty.cmp, Ty.depth, Go.SE.look, reduceCtorEq, Nat.reduceAdd, Nat.reduceSub, Nat.reduceMul, Nat.reduceEqDiff, Nat.reduceLT, Nat.reduceLeDiff, Nat.reduceMod, Nat.reduceDiv, Nat.reducePow, Nat.reduceBEq, Int.reduceToNat, Int.reduceLE, Int.reduceLT, Int.reduceEq, Int.reduceAdd, Int.reduceMul, Int.reduceSub, Int.reduceNeg, Int.reduceNe, Tryd.TS, Tryd.ev_g0, Tryd.ev1_g0, Tryd.ev_g1, Tryd.ev1_g1, rep4]
  refine SCall.mono (wzeroRef m hm) ?_; rintro rs rfl
  simp -dsimp -implicitDefEqProofs (disch := omega) only [↓gpre, ↓bldS, ↓bld, ↓reduceIte, ↓gmore, gpost, gall, keepT, den, del, upd, dels, refs, hasTy, sArgs, aRefs, rvs, nodupB, memB, app, pTm, Ty.bytes, kbytes, Ty.zeroD, Ty.size, Ty.cmp, Ty.depth, Go.SE.look, reduceCtorEq, Nat.reduceAdd, Nat.reduceSub, Nat.reduceMul, Nat.reduceEqDiff, Nat.reduceLT, Nat.reduceLeDiff, Nat.reduceMod, Nat.reduceDiv, Nat.reducePow, Nat.reduceBEq, Int.reduceToNat, Int.reduceLE, Int.reduceLT, Int.reduceEq, Int.reduceAdd, Int.reduceMul, Int.reduceSub, Int.reduceNeg, Int.reduceNe, Tryd.TS, Tryd.ev_g0, Tryd.ev1_g0, Tryd.ev_g1, Tryd.ev1_g1]
  refine HIf_dec (a := ()) (b := ()) (fun hz => ?_) (fun hz => ?_)
  · omega
  simp -dsimp -implicitDefEqProofs (disch := omega) only [↓gpre, ↓bldS, ↓bld, ↓reduceIte, ↓gmore, gpost, gall, keepT, den, del, upd, dels, refs, hasTy, sArgs, aRefs, rvs, nodupB, memB, app, pTm, Ty.bytes, kbytes, Ty.zeroD, Ty.size, Ty.cmp, Ty.depth, Go.SE.look, reduceCtorEq, Nat.reduceAdd, Nat.reduceSub, Nat.reduceMul, Nat.reduceEqDiff, Nat.reduceLT, Nat.reduceLeDiff, Nat.reduceMod, Nat.reduceDiv, Nat.reducePow, Nat.reduceBEq, Int.reduceToNat, Int.reduceLE, Int.reduceLT, Int.reduceEq, Int.reduceAdd, Int.reduceMul, Int.reduceSub, Int.reduceNeg, Int.reduceNe, Tryd.TS, Tryd.ev_g0, Tryd.ev1_g0, Tryd.ev_g1, Tryd.ev1_g1]
  refine sdrawM Tryd.hT (by kernel_rfl) [12, 13] (.alt 0 (.alt 1 (.alt 3 (.alt 4 (.alt 2 (.alt 5 (.alt 6 (.alt 7 (.alt 8 (.alt 9 (.alt 10 (.alt 11 (.alt 12 (.alt 13 .nil .nil) .nil) .nil) (.alt 11 (.alt 10 (.alt 12 (.alt 13 .nil .nil) .nil) .nil) .nil)) .nil) .nil) .nil) (.alt 10 (.alt 6 (.alt 7 (.alt 8 (.alt 9 (.alt 11 (.alt 12 (.alt 13 .nil .nil) .nil) .nil) .nil) .nil) .nil) (.alt 11 (.alt 6 (.alt 7 (.alt 8 (.alt 9 (.alt 12 (.alt 13 .nil .nil) .nil) .nil) .nil) .nil) .nil) .nil)) (.alt 11 (.alt 6 (.alt 7 (.alt 8 (.alt 9 (.alt 10 (.alt 12 (.alt 13 .nil .nil) .nil) .nil) .nil) .nil) .nil) (.alt 10 (.alt 6 (.alt 7 (.alt 8 (.alt 9 (.alt 12 (.alt 13 .nil .nil) .nil) .nil) .nil) .nil) .nil) .nil)) .nil))) (.alt 10 (.alt 5 (.alt 6 (.alt 7 (.alt 8 (.alt 9 (.alt 11 (.alt 12 (.alt 13 .nil .nil) .nil) .nil) .nil) .nil) .nil) (.alt 11 (.alt 6 (.alt 7 (.alt 8 (.alt 9 (.alt 12 (.alt 13 .nil .nil) .nil) .nil) .nil) .nil) .nil) .nil)) (.alt 11 (.alt 5 (.alt 6 (.alt 7 (.alt 8 (.alt 9 (.alt 12 (.alt 13 .nil .nil) .nil) .nil) .nil) .nil) .nil) .nil) .nil)) (.alt 11 (.alt 5 (.alt 6 (.alt 7 (.alt 8 (.alt 9 (.alt 10 (.alt 12 (.alt 13 .nil .nil) .nil) .nil) .nil) .nil) .nil) (.alt 10 (.alt 6 (.alt 7 (.alt 8 (.alt 9 (.alt 12 (.alt 13 .nil .nil) .nil) .nil) .nil) .nil) .nil) .nil)) (.alt 10 (.alt 5 (.alt 6 (.alt 7 (.alt 8 (.alt 9 (.alt 12 (.alt 13 .nil .nil) .nil) .nil) .nil) .nil) .nil) .nil) .nil)) .nil))) (.alt 10 (.alt 2 (.alt 5 (.alt 6 (.alt 7 (.alt 8 (.alt 9 (.alt 11 (.alt 12 (.alt 13 .nil .nil) .nil) .nil) .nil) .nil) .nil) (.alt 11 (.alt 6 (.alt 7 (.alt 8 (.alt 9 (.alt 12 (.alt 13 .nil .nil) .nil) .nil) .nil) .nil) .nil) .nil)) (.alt 11 (.alt 5 (.alt 6 (.alt 7 (.alt 8 (.alt 9 (.alt 12 (.alt 13 .nil .nil) .nil) .nil) .nil) .nil) .nil) .nil) .nil)) (.alt 11 (.alt 2 (.alt 5 (.alt 6 (.alt 7 (.alt 8 (.alt 9 (.alt 12 (.alt 13 .nil .nil) .nil) .nil) .nil) .nil) .nil) .nil) .nil) .nil)) (.alt 11 (.alt 2 (.alt 5 (.alt 6 (.alt 7 (.alt 8 (.alt 9 (.alt 10 (.alt 12 (.alt 13 .nil .nil) .nil) .nil) .nil) .nil) .nil) (.alt 10 (.alt 6 (.alt 7 (.alt 8 (.alt 9 (.alt 12 (.alt 13 .nil .nil) .nil) .nil) .nil) .nil) .nil) .nil)) (.alt 10 (.alt 5 (.alt 6 (.alt 7 (.alt 8 (.alt 9 (.alt 12 (.alt 13 .nil .nil) .nil) .nil) .nil) .nil) .nil) .nil) .nil)) (.alt 10 (.alt 2 (.alt 5 (.alt 6 (.alt 7 (.alt 8 (.alt 9 (.alt 12 (.alt 13 .nil .nil) .nil) .nil) .nil) .nil) .nil) .nil) .nil) .nil)) .nil))) .nil) .nil) .nil) .nil) ⟨34, [(3, .v (.ptr 0 [])), (4, .v (.ptr 1 [])), (5, .v (.ptr 2 [])), (6, .v (.ptr 3 [])), (7, .v (.ptr 4 [])), (8, .v (.ptr 5 []))], [(0, ⟨.arr 4 (.int .u64), .d (.arr 4 (.int .u64)) (u256 a)⟩), (1, ⟨.arr 4 (.int .u64), .d (.arr 4 (.int .u64)) (u256 b)⟩), (2, ⟨.arr 4 (.int .u64), .d (.arr 4 (.int .u64)) (u256 m)⟩), (3, ⟨.arr 4 (.int .u64), .d (.arr 4 (.int .u64)) (.l [.n 0, .n 0, .n 0, .n 0])⟩), (4, ⟨.arr 4 (.int .u64), .d (.arr 4 (.int .u64)) (u256 (a % m * (b % m) / 115792089237316195423570985008687907853269984665640564039457584007913129639936))⟩), (5, ⟨.arr 4 (.int .u64), .d (.arr 4 (.int .u64)) (u256 (a % m * (b % m) % 115792089237316195423570985008687907853269984665640564039457584007913129639936))⟩)], 6⟩ (by kernel_rfl) (by kernel_rfl) ?_ ?_
  · simp only [tr_alt, tr_nil, tr_nil', pickO, List.getElem?_toArray, List.getElem?_cons_zero, List.getElem?_cons_succ]
    simp -dsimp -implicitDefEqProofs (disch := omega) only [↓gpre, ↓bldS, ↓bld, ↓reduceIte, ↓gmore, gpost, gall, keepT, den, del, upd, dels, refs, hasTy, sArgs, aRefs, rvs, nodupB, memB, app, pTm, Ty.bytes, kbytes, Ty.zeroD, Ty.size, Ty.cmp, Ty.depth, Go.SE.look, reduceCtorEq, Nat.reduceAdd, Nat.reduceSub, Nat.reduceMul, Nat.reduceEqDiff, Nat.reduceLT, Nat.reduceLeDiff, Nat.reduceMod, Nat.reduceDiv, Nat.reducePow, Nat.reduceBEq, Int.reduceToNat, Int.reduceLE, Int.reduceLT, Int.reduceEq, Int.reduceAdd, Int.reduceMul, Int.reduceSub, Int.reduceNeg, Int.reduceNe, Tryd.TS, Tryd.ev_g0, Tryd.ev1_g0, Tryd.ev_g1, Tryd.ev1_g1, rep4]
    repeat' (first
      | with_reducible refine And.intro ?_ ?_
      | (with_reducible refine HCall_mono (wreduceRef a m ha hm h0) ?_; rintro rs rfl
         simp -dsimp -implicitDefEqProofs (disch := omega) only [↓gpre, ↓bldS, ↓bld, ↓reduceIte, ↓gmore, gpost, gall, keepT, den, del, upd, dels, refs, hasTy, sArgs, aRefs, rvs, nodupB, memB, app, pTm, Ty.bytes, kbytes, Ty.zeroD, Ty.size, Ty.cmp, Ty.depth, Go.SE.look, reduceCtorEq, Nat.reduceAdd, Nat.reduceSub, Nat.reduceMul, Nat.reduceEqDiff, Nat.reduceLT, Nat.reduceLeDiff, Nat.reduceMod, Nat.reduceDiv, Nat.reducePow, Nat.reduceBEq, Int.reduceToNat, Int.reduceLE, Int.reduceLT, Int.reduceEq, Int.reduceAdd, Int.reduceMul, Int.reduceSub, Int.reduceNeg, Int.reduceNe, Tryd.TS, Tryd.ev_g0, Tryd.ev1_g0, Tryd.ev_g1, Tryd.ev1_g1, rep4])
      | (with_reducible refine HCall_mono (wreduceRef b m hb hm h0) ?_; rintro rs rfl
         simp -dsimp -implicitDefEqProofs (disch := omega) only [↓gpre, ↓bldS, ↓bld, ↓reduceIte, ↓gmore, gpost, gall, keepT, den, del, upd, dels, refs, hasTy, sArgs, aRefs, rvs, nodupB, memB, app, pTm, Ty.bytes, kbytes, Ty.zeroD, Ty.size, Ty.cmp, Ty.depth, Go.SE.look, reduceCtorEq, Nat.reduceAdd, Nat.reduceSub, Nat.reduceMul, Nat.reduceEqDiff, Nat.reduceLT, Nat.reduceLeDiff, Nat.reduceMod, Nat.reduceDiv, Nat.reducePow, Nat.reduceBEq, Int.reduceToNat, Int.reduceLE, Int.reduceLT, Int.reduceEq, Int.reduceAdd, Int.reduceMul, Int.reduceSub, Int.reduceNeg, Int.reduceNe, Tryd.TS, Tryd.ev_g0, Tryd.ev1_g0, Tryd.ev_g1, Tryd.ev1_g1, rep4])
      | (with_reducible refine HCall_mono (wmulRef (a % m) (b % m) hma hmb) ?_; rintro rs rfl
         simp -dsimp -implicitDefEqProofs (disch := omega) only [↓gpre, ↓bldS, ↓bld, ↓reduceIte, ↓gmore, gpost, gall, keepT, den, del, upd, dels, refs, hasTy, sArgs, aRefs, rvs, nodupB, memB, app, pTm, Ty.bytes, kbytes, Ty.zeroD, Ty.size, Ty.cmp, Ty.depth, Go.SE.look, reduceCtorEq, Nat.reduceAdd, Nat.reduceSub, Nat.reduceMul, Nat.reduceEqDiff, Nat.reduceLT, Nat.reduceLeDiff, Nat.reduceMod, Nat.reduceDiv, Nat.reducePow, Nat.reduceBEq, Int.reduceToNat, Int.reduceLE, Int.reduceLT, Int.reduceEq, Int.reduceAdd, Int.reduceMul, Int.reduceSub, Int.reduceNeg, Int.reduceNe, Tryd.TS, Tryd.ev_g0, Tryd.ev1_g0, Tryd.ev_g1, Tryd.ev1_g1, rep4])
      | with_reducible exact True.intro
      | (first | (refine sub_ren w0 [(0, 0), (1, 1), (2, 2), (3, 3), (4, 9), (5, 10)] rfl ?_ rfl ?_ ?_; (focus (simp [keysLt]; done)); (focus (simp [renTm, Go.SE.look, renTV, renSV]; done)); (focus (simp [renOb, Go.SE.look, renSV]; done))) | (refine sub_ren w0 [(0, 0), (1, 1), (2, 2), (3, 3), (4, 10), (5, 9)] rfl ?_ rfl ?_ ?_; (focus (simp [keysLt]; done)); (focus (simp [renTm, Go.SE.look, renTV, renSV]; done)); (focus (simp [renOb, Go.SE.look, renSV]; done))) | (refine sub_ren w0 [(0, 0), (1, 1), (2, 2), (3, 3), (4, 7), (5, 10)] rfl ?_ rfl ?_ ?_; (focus (simp [keysLt]; done)); (focus (simp [renTm, Go.SE.look, renTV, renSV]; done)); (focus (simp [renOb, Go.SE.look, renSV]; done))) | (refine sub_ren w0 [(0, 0), (1, 1), (2, 2), (3, 3), (4, 7), (5, 8)] rfl ?_ rfl ?_ ?_; (focus (simp [keysLt]; done)); (focus (simp [renTm, Go.SE.look, renTV, renSV]; done)); (focus (simp [renOb, Go.SE.look, renSV]; done))) | (refine sub_ren w0 [(0, 0), (1, 1), (2, 2), (3, 3), (4, 10), (5, 7)] rfl ?_ rfl ?_ ?_; (focus (simp [keysLt]; done)); (focus (simp [renTm, Go.SE.look, renTV, renSV]; done)); (focus (simp [renOb, Go.SE.look, renSV]; done))) | (refine sub_ren w0 [(0, 0), (1, 1), (2, 2), (3, 3), (4, 8), (5, 7)] rfl ?_ rfl ?_ ?_; (focus (simp [keysLt]; done)); (focus (simp [renTm, Go.SE.look, renTV, renSV]; done)); (focus (simp [renOb, Go.SE.look, renSV]; done))) | (refine sub_ren w0 [(0, 0), (1, 1), (2, 2), (3, 3), (4, 6), (5, 10)] rfl ?_ rfl ?_ ?_; (focus (simp [keysLt]; done)); (focus (simp [renTm, Go.SE.look, renTV, renSV]; done)); (focus (simp [renOb, Go.SE.look, renSV]; done))) | (refine sub_ren w0 [(0, 0), (1, 1), (2, 2), (3, 3), (4, 6), (5, 8)] rfl ?_ rfl ?_ ?_; (focus (simp [keysLt]; done)); (focus (simp [renTm, Go.SE.look, renTV, renSV]; done)); (focus (simp [renOb, Go.SE.look, renSV]; done))) | (refine sub_ren w0 [(0, 0), (1, 1), (2, 2), (3, 3), (4, 6), (5, 7)] rfl ?_ rfl ?_ ?_; (focus (simp [keysLt]; done)); (focus (simp [renTm, Go.SE.look, renTV, renSV]; done)); (focus (simp [renOb, Go.SE.look, renSV]; done))) | (refine sub_ren w0 [(0, 0), (1, 1), (2, 2), (3, 3), (4, 10), (5, 6)] rfl ?_ rfl ?_ ?_; (focus (simp [keysLt]; done)); (focus (simp [renTm, Go.SE.look, renTV, renSV]; done)); (focus (simp [renOb, Go.SE.look, renSV]; done))) | (refine sub_ren w0 [(0, 0), (1, 1), (2, 2), (3, 3), (4, 8), (5, 6)] rfl ?_ rfl ?_ ?_; (focus (simp [keysLt]; done)); (focus (simp [renTm, Go.SE.look, renTV, renSV]; done)); (focus (simp [renOb, Go.SE.look, renSV]; done))) | (refine sub_ren w0 [(0, 0), (1, 1), (2, 2), (3, 3), (4, 7), (5, 6)] rfl ?_ rfl ?_ ?_; (focus (simp [keysLt]; done)); (focus (simp [renTm, Go.SE.look, renTV, renSV]; done)); (focus (simp [renOb, Go.SE.look, renSV]; done))) | (refine sub_ren w0 [(0, 0), (1, 1), (2, 2), (3, 3), (4, 5), (5, 10)] rfl ?_ rfl ?_ ?_; (focus (simp [keysLt]; done)); (focus (simp [renTm, Go.SE.look, renTV, renSV]; done)); (focus (simp [renOb, Go.SE.look, renSV]; done))) | (refine sub_ren w0 [(0, 0), (1, 1), (2, 2), (3, 3), (4, 5), (5, 8)] rfl ?_ rfl ?_ ?_; (focus (simp [keysLt]; done)); (focus (simp [renTm, Go.SE.look, renTV, renSV]; done)); (focus (simp [renOb, Go.SE.look, renSV]; done))) | (refine sub_ren w0 [(0, 0), (1, 1), (2, 2), (3, 3), (4, 5), (5, 7)] rfl ?_ rfl ?_ ?_; (focus (simp [keysLt]; done)); (focus (simp [renTm, Go.SE.look, renTV, renSV]; done)); (focus (simp [renOb, Go.SE.look, renSV]; done))) | (refine sub_ren w0 [(0, 0), (1, 1), (2, 2), (3, 3), (4, 5), (5, 6)] rfl ?_ rfl ?_ ?_; (focus (simp [keysLt]; done)); (focus (simp [renTm, Go.SE.look, renTV, renSV]; done)); (focus (simp [renOb, Go.SE.look, renSV]; done))) | (refine sub_ren w0 [(0, 0), (1, 1), (2, 2), (3, 3), (4, 10), (5, 5)] rfl ?_ rfl ?_ ?_; (focus (simp [keysLt]; done)); (focus (simp [renTm, Go.SE.look, renTV, renSV]; done)); (focus (simp [renOb, Go.SE.look, renSV]; done))) | (refine sub_ren w0 [(0, 0), (1, 1), (2, 2), (3, 3), (4, 8), (5, 5)] rfl ?_ rfl ?_ ?_; (focus (simp [keysLt]; done)); (focus (simp [renTm, Go.SE.look, renTV, renSV]; done)); (focus (simp [renOb, Go.SE.look, renSV]; done))) | (refine sub_ren w0 [(0, 0), (1, 1), (2, 2), (3, 3), (4, 7), (5, 5)] rfl ?_ rfl ?_ ?_; (focus (simp [keysLt]; done)); (focus (simp [renTm, Go.SE.look, renTV, renSV]; done)); (focus (simp [renOb, Go.SE.look, renSV]; done))) | (refine sub_ren w0 [(0, 0), (1, 1), (2, 2), (3, 3), (4, 6), (5, 5)] rfl ?_ rfl ?_ ?_; (focus (simp [keysLt]; done)); (focus (simp [renTm, Go.SE.look, renTV, renSV]; done)); (focus (simp [renOb, Go.SE.look, renSV]; done)))))
  simp -dsimp -implicitDefEqProofs (disch := omega) only [↓gpre, ↓bldS, ↓bld, ↓reduceIte, ↓gmore, gpost, gall, keepT, den, del, upd, dels, refs, hasTy, sArgs, aRefs, rvs, nodupB, memB, app, pTm, Ty.bytes, kbytes, Ty.zeroD, Ty.size, Ty.cmp, Ty.depth, Go.SE.look, reduceCtorEq, Nat.reduceAdd, Nat.reduceSub, Nat.reduceMul, Nat.reduceEqDiff, Nat.reduceLT, Nat.reduceLeDiff, Nat.reduceMod, Nat.reduceDiv, Nat.reducePow, Nat.reduceBEq, Int.reduceToNat, Int.reduceLE, Int.reduceLT, Int.reduceEq, Int.reduceAdd, Int.reduceMul, Int.reduceSub, Int.reduceNeg, Int.reduceNe, Tryd.TS, Tryd.ev_g0, Tryd.ev1_g0, Tryd.ev_g1, Tryd.ev1_g1, rep4]
  refine SCall.mono (wdivRef (a % m * (b % m) / 115792089237316195423570985008687907853269984665640564039457584007913129639936) (a % m * (b % m) % 115792089237316195423570985008687907853269984665640564039457584007913129639936) m (mulmod_lt h0 hm) (Nat.mod_lt _ (by omega)) hm) ?_; rintro rs rfl
  simp -dsimp -implicitDefEqProofs (disch := omega) only [↓gpre, ↓bldS, ↓bld, ↓reduceIte, ↓gmore, gpost, gall, keepT, den, del, upd, dels, refs, hasTy, sArgs, aRefs, rvs, nodupB, memB, app, pTm, Ty.bytes, kbytes, Ty.zeroD, Ty.size, Ty.cmp, Ty.depth, Go.SE.look, reduceCtorEq, Nat.reduceAdd, Nat.reduceSub, Nat.reduceMul, Nat.reduceEqDiff, Nat.reduceLT, Nat.reduceLeDiff, Nat.reduceMod, Nat.reduceDiv, Nat.reducePow, Nat.reduceBEq, Int.reduceToNat, Int.reduceLE, Int.reduceLT, Int.reduceEq, Int.reduceAdd, Int.reduceMul, Int.reduceSub, Int.reduceNeg, Int.reduceNe, Tryd.TS, Tryd.ev_g0, Tryd.ev1_g0, Tryd.ev_g1, Tryd.ev1_g1]
  rw [Nat.mul_comm (a % m * (b % m) / 115792089237316195423570985008687907853269984665640564039457584007913129639936), Nat.div_add_mod, ← Nat.mul_mod]
end Go.Proofs
