/- Bytes of texts. -/
import Derived.Test.YtbdalbibdkipcaaCoQ
set_option linter.unusedVariables false
set_option linter.unusedSimpArgs false
set_option linter.constructorNameAsVariable false
namespace Go.Proofs
open Go.SE

abbrev ch (t : ByteArray) (i : Nat) : Nat := (t.data.toList.getD i 0).toNat
theorem ch_lt (t : ByteArray) (i : Nat) : ch t i < 256 := UInt8.toNat_lt _
theorem dg_lt (n : Nat) : (dg n).1 < 16 := by
  rcases dg_cases n with ⟨_, _, e, _⟩ | ⟨_, _, e, _⟩ | ⟨_, _, e, _⟩ | ⟨_, _, _, e⟩ <;> rw [e] <;> simp only <;> omega
/-- The bytes of the first k pairs of digits. -/
def uh (t : ByteArray) : Nat → List D
  | 0 => []
  | k + 1 => uh t k ++ [.n ((16 * (dg (ch t (2 * k))).1 + (dg (ch t (2 * k + 1))).1 : Nat) : Int)]
theorem uh_length (t : ByteArray) : ∀ k, (uh t k).length = k
  | 0 => rfl
  | k + 1 => by rw [uh, List.length_append, uh_length t k]; rfl
def okN (t : ByteArray) : Nat → Bool
  | 0 => true
  | k + 1 => okN t k && ((dg (ch t (2 * k))).2 && (dg (ch t (2 * k + 1))).2)
theorem okN_false {t : ByteArray} {k : Nat} (h : okN t k = false) : ∀ n, k ≤ n → okN t n = false
  | 0, hn => by rw [show k = 0 by omega] at h; exact h
  | n + 1, hn => by
    by_cases e : k = n + 1
    · rw [← e]; exact h
    · rw [okN, okN_false h n (by omega)]; rfl
/-- What a text of digits is: its bytes, the error. -/
def unR (t : ByteArray) : List D × Int :=
  if 400000 < t.size then ([], 4) else if t.size % 2 = 1 then ([], 7) else if okN t (t.size / 2) then (uh t (t.size / 2), 0) else ([], 7)

theorem shl4 {a : Nat} (ha : a < 16) : IntKind.u8.wrap ((a : Int) * 2 ^ min 4 IntKind.u8.bits) = ((16 * a : Nat) : Int) := by
  rw [show ((2 : Int) ^ min 4 IntKind.u8.bits) = 16 from rfl, IntKind.wrap_u8]; omega
theorem or4 {a b : Nat} (ha : a < 16) (hb : b < 16) : bits .or .u8 ((16 * a : Nat) : Int) (b : Int) = ((16 * a + b : Nat) : Int) := by
  rw [u8_or_nat _ _ (by omega) (by omega)]
  congr 1
  exact (Nat.two_pow_add_eq_or_of_lt (i := 4) hb a).symm
theorem tm2 (n : Nat) : (n : Int).tmod 2 = ((n % 2 : Nat) : Int) := rfl
theorem td2 (n : Nat) : (n : Int).tdiv 2 = ((n / 2 : Nat) : Int) := rfl

set_option maxHeartbeats 4000000 in
theorem unhex' (t : ByteArray) : SCall Try.prog 42 [(.str, .s t)] (fun rs => rs = [.own (.int .u8) (unR t).1, .d (.int .i64) (.n (unR t).2)]) := by
  refine scall_intro (n := 56) (rl := [.tmp 2, .tmp 3]) (us := [22, 25]) Try.hT Try.func42 rfl rfl rfl rfl rfl (Nat.le_of_ble_eq_true rfl) ?_
  intro w0
  simp -dsimp -implicitDefEqProofs (disch := omega) only [↓gpre, ↓bldS, ↓bld, ↓reduceIte, ↓gmore, gpost, gall, keepT, den, del, upd, dels, refs, hasTy, sArgs, aRefs, rvs, nodupB, memB, app, pTm, Ty.bytes, kbytes, Ty.zeroD, Ty.size, Ty.cmp, Ty.depth, Go.SE.look, reduceCtorEq, Nat.reduceAdd, Nat.reduceSub, Nat.reduceMul, Nat.reduceEqDiff, Nat.reduceLT, Nat.reduceLeDiff, Nat.reduceMod, Nat.reduceDiv, Nat.reducePow, Nat.reduceBEq, Int.reduceToNat, Int.reduceLE, Int.reduceLT, Int.reduceEq, Int.reduceAdd, Int.reduceMul, Int.reduceSub, Int.reduceNeg, Int.reduceNe, Try.TS]
  refine HIf_dec (a := ()) (b := ()) (fun h1 => ?_) (fun h1 => ?_)
  · simp -dsimp -implicitDefEqProofs (disch := omega) only [↓gpre, ↓bldS, ↓bld, ↓reduceIte, ↓gmore, gpost, gall, keepT, den, del, upd, dels, refs, hasTy, sArgs, aRefs, rvs, nodupB, memB, app, pTm, Ty.bytes, kbytes, Ty.zeroD, Ty.size, Ty.cmp, Ty.depth, Go.SE.look, reduceCtorEq, Nat.reduceAdd, Nat.reduceSub, Nat.reduceMul, Nat.reduceEqDiff, Nat.reduceLT, Nat.reduceLeDiff, Nat.reduceMod, Nat.reduceDiv, Nat.reducePow, Nat.reduceBEq, Int.reduceToNat, Int.reduceLE, Int.reduceLT, Int.reduceEq, Int.reduceAdd, Int.reduceMul, Int.reduceSub, Int.reduceNeg, Int.reduceNe, Try.TS]
    unfold unR
    rw [if_pos (show 400000 < t.size by omega)]
  simp -dsimp -implicitDefEqProofs (disch := omega) only [↓gpre, ↓bldS, ↓bld, ↓reduceIte, ↓gmore, gpost, gall, keepT, den, del, upd, dels, refs, hasTy, sArgs, aRefs, rvs, nodupB, memB, app, pTm, Ty.bytes, kbytes, Ty.zeroD, Ty.size, Ty.cmp, Ty.depth, Go.SE.look, reduceCtorEq, Nat.reduceAdd, Nat.reduceSub, Nat.reduceMul, Nat.reduceEqDiff, Nat.reduceLT, Nat.reduceLeDiff, Nat.reduceMod, Nat.reduceDiv, Nat.reducePow, Nat.reduceBEq, Int.reduceToNat, Int.reduceLE, Int.reduceLT, Int.reduceEq, Int.reduceAdd, Int.reduceMul, Int.reduceSub, Int.reduceNeg, Int.reduceNe, Try.TS, tm2]
  refine HIf_ndec (a := ()) (b := ()) (fun h2 => ?_) (fun h2 => ?_)
  · simp -dsimp -implicitDefEqProofs (disch := omega) only [↓gpre, ↓bldS, ↓bld, ↓reduceIte, ↓gmore, gpost, gall, keepT, den, del, upd, dels, refs, hasTy, sArgs, aRefs, rvs, nodupB, memB, app, pTm, Ty.bytes, kbytes, Ty.zeroD, Ty.size, Ty.cmp, Ty.depth, Go.SE.look, reduceCtorEq, Nat.reduceAdd, Nat.reduceSub, Nat.reduceMul, Nat.reduceEqDiff, Nat.reduceLT, Nat.reduceLeDiff, Nat.reduceMod, Nat.reduceDiv, Nat.reducePow, Nat.reduceBEq, Int.reduceToNat, Int.reduceLE, Int.reduceLT, Int.reduceEq, Int.reduceAdd, Int.reduceMul, Int.reduceSub, Int.reduceNeg, Int.reduceNe, Try.TS]
    unfold unR
    rw [if_neg (show ¬ 400000 < t.size by omega), if_pos (show t.size % 2 = 1 by omega)]
  simp -dsimp -implicitDefEqProofs (disch := omega) only [↓gpre, ↓bldS, ↓bld, ↓reduceIte, ↓gmore, gpost, gall, keepT, den, del, upd, dels, refs, hasTy, sArgs, aRefs, rvs, nodupB, memB, app, pTm, Ty.bytes, kbytes, Ty.zeroD, Ty.size, Ty.cmp, Ty.depth, Go.SE.look, reduceCtorEq, Nat.reduceAdd, Nat.reduceSub, Nat.reduceMul, Nat.reduceEqDiff, Nat.reduceLT, Nat.reduceLeDiff, Nat.reduceMod, Nat.reduceDiv, Nat.reducePow, Nat.reduceBEq, Int.reduceToNat, Int.reduceLE, Int.reduceLT, Int.reduceEq, Int.reduceAdd, Int.reduceMul, Int.reduceSub, Int.reduceNeg, Int.reduceNe, Try.TS, tm2, td2]
  obtain ⟨n, hn⟩ : ∃ n, t.size = 2 * n := ⟨t.size / 2, by omega⟩
  have hR : unR t = if okN t n then (uh t n, 0) else ([], 7) := by
    unfold unR
    rw [if_neg (show ¬ 400000 < t.size by omega), if_neg (show ¬ t.size % 2 = 1 by omega), show t.size / 2 = n by omega]
  repeat (refine And.intro (by omega) ?_)
  refine sloop Try.hT (α := Nat) (fun k => ⟨56, [(5, .v (.d (.int .i64) (.n ((2 * k : Nat) : Int)))), (4, .v (.ref 0 [] 0 (uh t k).length)), (0, .v (.d .str (.s t)))], [(0, ⟨.arr (uh t k).length (.int .u8), .d (.arr (uh t k).length (.int .u8)) (.l (uh t k))⟩)], 1⟩) (fun k => k ≤ n ∧ okN t k = true) (fun k => n - k) 0 ?_ ⟨Nat.zero_le _, rfl⟩ ?_
  · refine sub_ren w0 [(0, 0)] rfl (by simp [keysLt]) rfl ?_ ?_
    · simp [renTm, Go.SE.look, renTV, renSV, uh]
    · simp [renOb, Go.SE.look, renSV, uh]
  · rintro k ⟨hk, hok⟩
    simp -dsimp -implicitDefEqProofs (disch := omega) only [↓gpre, ↓bldS, ↓bld, ↓reduceIte, ↓gmore, gpost, gall, keepT, den, del, upd, dels, refs, hasTy, sArgs, aRefs, rvs, nodupB, memB, app, pTm, Ty.bytes, kbytes, Ty.zeroD, Ty.size, Ty.cmp, Ty.depth, Go.SE.look, reduceCtorEq, Nat.reduceAdd, Nat.reduceSub, Nat.reduceMul, Nat.reduceEqDiff, Nat.reduceLT, Nat.reduceLeDiff, Nat.reduceMod, Nat.reduceDiv, Nat.reducePow, Nat.reduceBEq, Int.reduceToNat, Int.reduceLE, Int.reduceLT, Int.reduceEq, Int.reduceAdd, Int.reduceMul, Int.reduceSub, Int.reduceNeg, Int.reduceNe, Try.TS]
    refine HIf_dec (a := ()) (b := ()) (fun h => ?_) (fun h => ?_)
    · have c1 := digit' (ch t (2 * k)) (ch_lt _ _)
      have c2 := digit' (ch t (2 * k + 1)) (ch_lt _ _)
      have d1 := dg_lt (ch t (2 * k))
      have d2 := dg_lt (ch t (2 * k + 1))
      have hu : uh t (k + 1) = uh t k ++ [.n ((16 * (dg (ch t (2 * k))).1 + (dg (ch t (2 * k + 1))).1 : Nat) : Int)] := rfl
      have ho : okN t (k + 1) = (okN t k && ((dg (ch t (2 * k))).2 && (dg (ch t (2 * k + 1))).2)) := rfl
      have hf := @okN_false t (k + 1)
      have hl := uh_length t k
      generalize dg (ch t (2 * k)) = e1 at *
      generalize dg (ch t (2 * k + 1)) = e2 at *
      obtain ⟨v1, o1⟩ := e1
      obtain ⟨v2, o2⟩ := e2
      simp only at c1 c2 d1 d2 hu ho
      rw [hok, Bool.true_and] at ho
      rcases o1 with _ | _
      · have hF : okN t n = false := hf (by rw [ho]; rfl) n (by omega)
        simp -dsimp -implicitDefEqProofs (disch := omega) only [↓gpre, ↓bldS, ↓bld, ↓reduceIte, ↓gmore, gpost, gall, keepT, den, del, upd, dels, refs, hasTy, sArgs, aRefs, rvs, nodupB, memB, app, pTm, Ty.bytes, kbytes, Ty.zeroD, Ty.size, Ty.cmp, Ty.depth, Go.SE.look, reduceCtorEq, Nat.reduceAdd, Nat.reduceSub, Nat.reduceMul, Nat.reduceEqDiff, Nat.reduceLT, Nat.reduceLeDiff, Nat.reduceMod, Nat.reduceDiv, Nat.reducePow, Nat.reduceBEq, Int.reduceToNat, Int.reduceLE, Int.reduceLT, Int.reduceEq, Int.reduceAdd, Int.reduceMul, Int.reduceSub, Int.reduceNeg, Int.reduceNe, Try.TS]
        repeat (refine And.intro (by omega) ?_)
        refine SCall.mono (c1) ?_; rintro rs rfl
        simp -dsimp -implicitDefEqProofs (disch := omega) only [↓gpre, ↓bldS, ↓bld, ↓reduceIte, ↓gmore, gpost, gall, keepT, den, del, upd, dels, refs, hasTy, sArgs, aRefs, rvs, nodupB, memB, app, pTm, Ty.bytes, kbytes, Ty.zeroD, Ty.size, Ty.cmp, Ty.depth, Go.SE.look, reduceCtorEq, Nat.reduceAdd, Nat.reduceSub, Nat.reduceMul, Nat.reduceEqDiff, Nat.reduceLT, Nat.reduceLeDiff, Nat.reduceMod, Nat.reduceDiv, Nat.reducePow, Nat.reduceBEq, Int.reduceToNat, Int.reduceLE, Int.reduceLT, Int.reduceEq, Int.reduceAdd, Int.reduceMul, Int.reduceSub, Int.reduceNeg, Int.reduceNe, Try.TS]
        repeat (refine And.intro (by omega) ?_)
        refine SCall.mono (c2) ?_; rintro rs rfl
        simp -dsimp -implicitDefEqProofs (disch := omega) only [↓gpre, ↓bldS, ↓bld, ↓reduceIte, ↓gmore, gpost, gall, keepT, den, del, upd, dels, refs, hasTy, sArgs, aRefs, rvs, nodupB, memB, app, pTm, Ty.bytes, kbytes, Ty.zeroD, Ty.size, Ty.cmp, Ty.depth, Go.SE.look, reduceCtorEq, Nat.reduceAdd, Nat.reduceSub, Nat.reduceMul, Nat.reduceEqDiff, Nat.reduceLT, Nat.reduceLeDiff, Nat.reduceMod, Nat.reduceDiv, Nat.reducePow, Nat.reduceBEq, Int.reduceToNat, Int.reduceLE, Int.reduceLT, Int.reduceEq, Int.reduceAdd, Int.reduceMul, Int.reduceSub, Int.reduceNeg, Int.reduceNe, Try.TS]
        rw [hR, hF]
        simp
      rcases o2 with _ | _
      · have hF : okN t n = false := hf (by rw [ho]; rfl) n (by omega)
        simp -dsimp -implicitDefEqProofs (disch := omega) only [↓gpre, ↓bldS, ↓bld, ↓reduceIte, ↓gmore, gpost, gall, keepT, den, del, upd, dels, refs, hasTy, sArgs, aRefs, rvs, nodupB, memB, app, pTm, Ty.bytes, kbytes, Ty.zeroD, Ty.size, Ty.cmp, Ty.depth, Go.SE.look, reduceCtorEq, Nat.reduceAdd, Nat.reduceSub, Nat.reduceMul, Nat.reduceEqDiff, Nat.reduceLT, Nat.reduceLeDiff, Nat.reduceMod, Nat.reduceDiv, Nat.reducePow, Nat.reduceBEq, Int.reduceToNat, Int.reduceLE, Int.reduceLT, Int.reduceEq, Int.reduceAdd, Int.reduceMul, Int.reduceSub, Int.reduceNeg, Int.reduceNe, Try.TS]
        repeat (refine And.intro (by omega) ?_)
        refine SCall.mono (c1) ?_; rintro rs rfl
        simp -dsimp -implicitDefEqProofs (disch := omega) only [↓gpre, ↓bldS, ↓bld, ↓reduceIte, ↓gmore, gpost, gall, keepT, den, del, upd, dels, refs, hasTy, sArgs, aRefs, rvs, nodupB, memB, app, pTm, Ty.bytes, kbytes, Ty.zeroD, Ty.size, Ty.cmp, Ty.depth, Go.SE.look, reduceCtorEq, Nat.reduceAdd, Nat.reduceSub, Nat.reduceMul, Nat.reduceEqDiff, Nat.reduceLT, Nat.reduceLeDiff, Nat.reduceMod, Nat.reduceDiv, Nat.reducePow, Nat.reduceBEq, Int.reduceToNat, Int.reduceLE, Int.reduceLT, Int.reduceEq, Int.reduceAdd, Int.reduceMul, Int.reduceSub, Int.reduceNeg, Int.reduceNe, Try.TS]
        repeat (refine And.intro (by omega) ?_)
        refine SCall.mono (c2) ?_; rintro rs rfl
        simp -dsimp -implicitDefEqProofs (disch := omega) only [↓gpre, ↓bldS, ↓bld, ↓reduceIte, ↓gmore, gpost, gall, keepT, den, del, upd, dels, refs, hasTy, sArgs, aRefs, rvs, nodupB, memB, app, pTm, Ty.bytes, kbytes, Ty.zeroD, Ty.size, Ty.cmp, Ty.depth, Go.SE.look, reduceCtorEq, Nat.reduceAdd, Nat.reduceSub, Nat.reduceMul, Nat.reduceEqDiff, Nat.reduceLT, Nat.reduceLeDiff, Nat.reduceMod, Nat.reduceDiv, Nat.reducePow, Nat.reduceBEq, Int.reduceToNat, Int.reduceLE, Int.reduceLT, Int.reduceEq, Int.reduceAdd, Int.reduceMul, Int.reduceSub, Int.reduceNeg, Int.reduceNe, Try.TS]
        rw [hR, hF]
        simp
      · simp -dsimp -implicitDefEqProofs (disch := omega) only [↓gpre, ↓bldS, ↓bld, ↓reduceIte, ↓gmore, gpost, gall, keepT, den, del, upd, dels, refs, hasTy, sArgs, aRefs, rvs, nodupB, memB, app, pTm, Ty.bytes, kbytes, Ty.zeroD, Ty.size, Ty.cmp, Ty.depth, Go.SE.look, reduceCtorEq, Nat.reduceAdd, Nat.reduceSub, Nat.reduceMul, Nat.reduceEqDiff, Nat.reduceLT, Nat.reduceLeDiff, Nat.reduceMod, Nat.reduceDiv, Nat.reducePow, Nat.reduceBEq, Int.reduceToNat, Int.reduceLE, Int.reduceLT, Int.reduceEq, Int.reduceAdd, Int.reduceMul, Int.reduceSub, Int.reduceNeg, Int.reduceNe, Try.TS]
        repeat (refine And.intro (by omega) ?_)
        refine SCall.mono (c1) ?_; rintro rs rfl
        simp -dsimp -implicitDefEqProofs (disch := omega) only [↓gpre, ↓bldS, ↓bld, ↓reduceIte, ↓gmore, gpost, gall, keepT, den, del, upd, dels, refs, hasTy, sArgs, aRefs, rvs, nodupB, memB, app, pTm, Ty.bytes, kbytes, Ty.zeroD, Ty.size, Ty.cmp, Ty.depth, Go.SE.look, reduceCtorEq, Nat.reduceAdd, Nat.reduceSub, Nat.reduceMul, Nat.reduceEqDiff, Nat.reduceLT, Nat.reduceLeDiff, Nat.reduceMod, Nat.reduceDiv, Nat.reducePow, Nat.reduceBEq, Int.reduceToNat, Int.reduceLE, Int.reduceLT, Int.reduceEq, Int.reduceAdd, Int.reduceMul, Int.reduceSub, Int.reduceNeg, Int.reduceNe, Try.TS]
        repeat (refine And.intro (by omega) ?_)
        refine SCall.mono (c2) ?_; rintro rs rfl
        simp -dsimp -implicitDefEqProofs (disch := omega) only [↓gpre, ↓bldS, ↓bld, ↓reduceIte, ↓gmore, gpost, gall, keepT, den, del, upd, dels, refs, hasTy, sArgs, aRefs, rvs, nodupB, memB, app, pTm, Ty.bytes, kbytes, Ty.zeroD, Ty.size, Ty.cmp, Ty.depth, Go.SE.look, reduceCtorEq, Nat.reduceAdd, Nat.reduceSub, Nat.reduceMul, Nat.reduceEqDiff, Nat.reduceLT, Nat.reduceLeDiff, Nat.reduceMod, Nat.reduceDiv, Nat.reducePow, Nat.reduceBEq, Int.reduceToNat, Int.reduceLE, Int.reduceLT, Int.reduceEq, Int.reduceAdd, Int.reduceMul, Int.reduceSub, Int.reduceNeg, Int.reduceNe, Try.TS, shl4 d1, or4 d1 d2]
        repeat (refine And.intro (by omega) ?_)
        refine ⟨k + 1, ⟨by omega, by rw [ho]; rfl⟩, by omega, ?_⟩
        refine sub_ren w0 [(0, 6)] rfl (by simp [keysLt]) rfl ?_ ?_
        · simp [renTm, Go.SE.look, renTV, renSV, hu]; omega
        · simp [renOb, Go.SE.look, renSV, hu]
    · simp -dsimp -implicitDefEqProofs (disch := omega) only [↓gpre, ↓bldS, ↓bld, ↓reduceIte, ↓gmore, gpost, gall, keepT, den, del, upd, dels, refs, hasTy, sArgs, aRefs, rvs, nodupB, memB, app, pTm, Ty.bytes, kbytes, Ty.zeroD, Ty.size, Ty.cmp, Ty.depth, Go.SE.look, reduceCtorEq, Nat.reduceAdd, Nat.reduceSub, Nat.reduceMul, Nat.reduceEqDiff, Nat.reduceLT, Nat.reduceLeDiff, Nat.reduceMod, Nat.reduceDiv, Nat.reducePow, Nat.reduceBEq, Int.reduceToNat, Int.reduceLE, Int.reduceLT, Int.reduceEq, Int.reduceAdd, Int.reduceMul, Int.reduceSub, Int.reduceNeg, Int.reduceNe, Try.TS]
      have e : k = n := by omega
      subst e
      rw [hR, if_pos hok]

theorem mul16 {a : Nat} (ha : a < 16) : (16 : Int) * (a : Int) = ((16 * a : Nat) : Int) := by omega
theorem add16 {a b : Nat} (ha : a < 16) (hb : b < 16) : ((16 * a : Nat) : Int) + (b : Int) = ((16 * a + b : Nat) : Int) := by omega

set_option maxHeartbeats 4000000 in
theorem unhexRef (t : ByteArray) : SCall Try.prog 43 [(.str, .s t)] (fun rs => rs = [.own (.int .u8) (unR t).1, .d (.int .i64) (.n (unR t).2)]) := by
  refine scall_intro (n := 52) (rl := [.tmp 2, .tmp 3]) (us := [22, 25]) Try.hT Try.func43 rfl rfl rfl rfl rfl (Nat.le_of_ble_eq_true rfl) ?_
  intro w0
  simp -dsimp -implicitDefEqProofs (disch := omega) only [↓gpre, ↓bldS, ↓bld, ↓reduceIte, ↓gmore, gpost, gall, keepT, den, del, upd, dels, refs, hasTy, sArgs, aRefs, rvs, nodupB, memB, app, pTm, Ty.bytes, kbytes, Ty.zeroD, Ty.size, Ty.cmp, Ty.depth, Go.SE.look, reduceCtorEq, Nat.reduceAdd, Nat.reduceSub, Nat.reduceMul, Nat.reduceEqDiff, Nat.reduceLT, Nat.reduceLeDiff, Nat.reduceMod, Nat.reduceDiv, Nat.reducePow, Nat.reduceBEq, Int.reduceToNat, Int.reduceLE, Int.reduceLT, Int.reduceEq, Int.reduceAdd, Int.reduceMul, Int.reduceSub, Int.reduceNeg, Int.reduceNe, Try.TS]
  refine HIf_dec (a := ()) (b := ()) (fun h1 => ?_) (fun h1 => ?_)
  · simp -dsimp -implicitDefEqProofs (disch := omega) only [↓gpre, ↓bldS, ↓bld, ↓reduceIte, ↓gmore, gpost, gall, keepT, den, del, upd, dels, refs, hasTy, sArgs, aRefs, rvs, nodupB, memB, app, pTm, Ty.bytes, kbytes, Ty.zeroD, Ty.size, Ty.cmp, Ty.depth, Go.SE.look, reduceCtorEq, Nat.reduceAdd, Nat.reduceSub, Nat.reduceMul, Nat.reduceEqDiff, Nat.reduceLT, Nat.reduceLeDiff, Nat.reduceMod, Nat.reduceDiv, Nat.reducePow, Nat.reduceBEq, Int.reduceToNat, Int.reduceLE, Int.reduceLT, Int.reduceEq, Int.reduceAdd, Int.reduceMul, Int.reduceSub, Int.reduceNeg, Int.reduceNe, Try.TS]
    unfold unR
    rw [if_pos (show 400000 < t.size by omega)]
  simp -dsimp -implicitDefEqProofs (disch := omega) only [↓gpre, ↓bldS, ↓bld, ↓reduceIte, ↓gmore, gpost, gall, keepT, den, del, upd, dels, refs, hasTy, sArgs, aRefs, rvs, nodupB, memB, app, pTm, Ty.bytes, kbytes, Ty.zeroD, Ty.size, Ty.cmp, Ty.depth, Go.SE.look, reduceCtorEq, Nat.reduceAdd, Nat.reduceSub, Nat.reduceMul, Nat.reduceEqDiff, Nat.reduceLT, Nat.reduceLeDiff, Nat.reduceMod, Nat.reduceDiv, Nat.reducePow, Nat.reduceBEq, Int.reduceToNat, Int.reduceLE, Int.reduceLT, Int.reduceEq, Int.reduceAdd, Int.reduceMul, Int.reduceSub, Int.reduceNeg, Int.reduceNe, Try.TS, tm2]
  refine HIf_ndec (a := ()) (b := ()) (fun h2 => ?_) (fun h2 => ?_)
  · simp -dsimp -implicitDefEqProofs (disch := omega) only [↓gpre, ↓bldS, ↓bld, ↓reduceIte, ↓gmore, gpost, gall, keepT, den, del, upd, dels, refs, hasTy, sArgs, aRefs, rvs, nodupB, memB, app, pTm, Ty.bytes, kbytes, Ty.zeroD, Ty.size, Ty.cmp, Ty.depth, Go.SE.look, reduceCtorEq, Nat.reduceAdd, Nat.reduceSub, Nat.reduceMul, Nat.reduceEqDiff, Nat.reduceLT, Nat.reduceLeDiff, Nat.reduceMod, Nat.reduceDiv, Nat.reducePow, Nat.reduceBEq, Int.reduceToNat, Int.reduceLE, Int.reduceLT, Int.reduceEq, Int.reduceAdd, Int.reduceMul, Int.reduceSub, Int.reduceNeg, Int.reduceNe, Try.TS]
    unfold unR
    rw [if_neg (show ¬ 400000 < t.size by omega), if_pos (show t.size % 2 = 1 by omega)]
  simp -dsimp -implicitDefEqProofs (disch := omega) only [↓gpre, ↓bldS, ↓bld, ↓reduceIte, ↓gmore, gpost, gall, keepT, den, del, upd, dels, refs, hasTy, sArgs, aRefs, rvs, nodupB, memB, app, pTm, Ty.bytes, kbytes, Ty.zeroD, Ty.size, Ty.cmp, Ty.depth, Go.SE.look, reduceCtorEq, Nat.reduceAdd, Nat.reduceSub, Nat.reduceMul, Nat.reduceEqDiff, Nat.reduceLT, Nat.reduceLeDiff, Nat.reduceMod, Nat.reduceDiv, Nat.reducePow, Nat.reduceBEq, Int.reduceToNat, Int.reduceLE, Int.reduceLT, Int.reduceEq, Int.reduceAdd, Int.reduceMul, Int.reduceSub, Int.reduceNeg, Int.reduceNe, Try.TS, tm2]
  obtain ⟨n, hn⟩ : ∃ n, t.size = 2 * n := ⟨t.size / 2, by omega⟩
  have hR : unR t = if okN t n then (uh t n, 0) else ([], 7) := by
    unfold unR
    rw [if_neg (show ¬ 400000 < t.size by omega), if_neg (show ¬ t.size % 2 = 1 by omega), show t.size / 2 = n by omega]
  refine sunroll Try.hT ?_; simp -dsimp -implicitDefEqProofs (disch := omega) only [↓gpre, ↓bldS, ↓bld, ↓reduceIte, ↓gmore, gpost, gall, keepT, den, del, upd, dels, refs, hasTy, sArgs, aRefs, rvs, nodupB, memB, app, pTm, Ty.bytes, kbytes, Ty.zeroD, Ty.size, Ty.cmp, Ty.depth, Go.SE.look, reduceCtorEq, Nat.reduceAdd, Nat.reduceSub, Nat.reduceMul, Nat.reduceEqDiff, Nat.reduceLT, Nat.reduceLeDiff, Nat.reduceMod, Nat.reduceDiv, Nat.reducePow, Nat.reduceBEq, Int.reduceToNat, Int.reduceLE, Int.reduceLT, Int.reduceEq, Int.reduceAdd, Int.reduceMul, Int.reduceSub, Int.reduceNeg, Int.reduceNe, Try.TS, tm2]
  refine HIf_dec (a := ()) (b := ()) (fun h0 => ?_) (fun h0 => ?_)
  · have c1 := halfRef (ch t 0) (ch_lt _ _)
    have c2 := halfRef (ch t 1) (ch_lt _ _)
    have d1 := dg_lt (ch t 0)
    have d2 := dg_lt (ch t 1)
    have hu : uh t 1 = [.n ((16 * (dg (ch t 0)).1 + (dg (ch t 1)).1 : Nat) : Int)] := rfl
    have ho : okN t 1 = (true && ((dg (ch t 0)).2 && (dg (ch t 1)).2)) := rfl
    have hf := @okN_false t 1
    generalize dg (ch t 0) = e1 at *
    generalize dg (ch t 1) = e2 at *
    obtain ⟨v1, o1⟩ := e1
    obtain ⟨v2, o2⟩ := e2
    simp only at c1 c2 d1 d2 hu ho
    rw [Bool.true_and] at ho
    rcases o1 with _ | _
    · have hF : okN t n = false := hf (by rw [ho]; rfl) n (by omega)
      simp -dsimp -implicitDefEqProofs (disch := omega) only [↓gpre, ↓bldS, ↓bld, ↓reduceIte, ↓gmore, gpost, gall, keepT, den, del, upd, dels, refs, hasTy, sArgs, aRefs, rvs, nodupB, memB, app, pTm, Ty.bytes, kbytes, Ty.zeroD, Ty.size, Ty.cmp, Ty.depth, Go.SE.look, reduceCtorEq, Nat.reduceAdd, Nat.reduceSub, Nat.reduceMul, Nat.reduceEqDiff, Nat.reduceLT, Nat.reduceLeDiff, Nat.reduceMod, Nat.reduceDiv, Nat.reducePow, Nat.reduceBEq, Int.reduceToNat, Int.reduceLE, Int.reduceLT, Int.reduceEq, Int.reduceAdd, Int.reduceMul, Int.reduceSub, Int.reduceNeg, Int.reduceNe, Try.TS]
      repeat (refine And.intro (by omega) ?_)
      refine SCall.mono (c1) ?_; rintro rs rfl
      simp -dsimp -implicitDefEqProofs (disch := omega) only [↓gpre, ↓bldS, ↓bld, ↓reduceIte, ↓gmore, gpost, gall, keepT, den, del, upd, dels, refs, hasTy, sArgs, aRefs, rvs, nodupB, memB, app, pTm, Ty.bytes, kbytes, Ty.zeroD, Ty.size, Ty.cmp, Ty.depth, Go.SE.look, reduceCtorEq, Nat.reduceAdd, Nat.reduceSub, Nat.reduceMul, Nat.reduceEqDiff, Nat.reduceLT, Nat.reduceLeDiff, Nat.reduceMod, Nat.reduceDiv, Nat.reducePow, Nat.reduceBEq, Int.reduceToNat, Int.reduceLE, Int.reduceLT, Int.reduceEq, Int.reduceAdd, Int.reduceMul, Int.reduceSub, Int.reduceNeg, Int.reduceNe, Try.TS]
      repeat (refine And.intro (by omega) ?_)
      refine SCall.mono (c2) ?_; rintro rs rfl
      simp -dsimp -implicitDefEqProofs (disch := omega) only [↓gpre, ↓bldS, ↓bld, ↓reduceIte, ↓gmore, gpost, gall, keepT, den, del, upd, dels, refs, hasTy, sArgs, aRefs, rvs, nodupB, memB, app, pTm, Ty.bytes, kbytes, Ty.zeroD, Ty.size, Ty.cmp, Ty.depth, Go.SE.look, reduceCtorEq, Nat.reduceAdd, Nat.reduceSub, Nat.reduceMul, Nat.reduceEqDiff, Nat.reduceLT, Nat.reduceLeDiff, Nat.reduceMod, Nat.reduceDiv, Nat.reducePow, Nat.reduceBEq, Int.reduceToNat, Int.reduceLE, Int.reduceLT, Int.reduceEq, Int.reduceAdd, Int.reduceMul, Int.reduceSub, Int.reduceNeg, Int.reduceNe, Try.TS]
      rw [hR, hF]
      simp
    rcases o2 with _ | _
    · have hF : okN t n = false := hf (by rw [ho]; rfl) n (by omega)
      simp -dsimp -implicitDefEqProofs (disch := omega) only [↓gpre, ↓bldS, ↓bld, ↓reduceIte, ↓gmore, gpost, gall, keepT, den, del, upd, dels, refs, hasTy, sArgs, aRefs, rvs, nodupB, memB, app, pTm, Ty.bytes, kbytes, Ty.zeroD, Ty.size, Ty.cmp, Ty.depth, Go.SE.look, reduceCtorEq, Nat.reduceAdd, Nat.reduceSub, Nat.reduceMul, Nat.reduceEqDiff, Nat.reduceLT, Nat.reduceLeDiff, Nat.reduceMod, Nat.reduceDiv, Nat.reducePow, Nat.reduceBEq, Int.reduceToNat, Int.reduceLE, Int.reduceLT, Int.reduceEq, Int.reduceAdd, Int.reduceMul, Int.reduceSub, Int.reduceNeg, Int.reduceNe, Try.TS]
      repeat (refine And.intro (by omega) ?_)
      refine SCall.mono (c1) ?_; rintro rs rfl
      simp -dsimp -implicitDefEqProofs (disch := omega) only [↓gpre, ↓bldS, ↓bld, ↓reduceIte, ↓gmore, gpost, gall, keepT, den, del, upd, dels, refs, hasTy, sArgs, aRefs, rvs, nodupB, memB, app, pTm, Ty.bytes, kbytes, Ty.zeroD, Ty.size, Ty.cmp, Ty.depth, Go.SE.look, reduceCtorEq, Nat.reduceAdd, Nat.reduceSub, Nat.reduceMul, Nat.reduceEqDiff, Nat.reduceLT, Nat.reduceLeDiff, Nat.reduceMod, Nat.reduceDiv, Nat.reducePow, Nat.reduceBEq, Int.reduceToNat, Int.reduceLE, Int.reduceLT, Int.reduceEq, Int.reduceAdd, Int.reduceMul, Int.reduceSub, Int.reduceNeg, Int.reduceNe, Try.TS]
      repeat (refine And.intro (by omega) ?_)
      refine SCall.mono (c2) ?_; rintro rs rfl
      simp -dsimp -implicitDefEqProofs (disch := omega) only [↓gpre, ↓bldS, ↓bld, ↓reduceIte, ↓gmore, gpost, gall, keepT, den, del, upd, dels, refs, hasTy, sArgs, aRefs, rvs, nodupB, memB, app, pTm, Ty.bytes, kbytes, Ty.zeroD, Ty.size, Ty.cmp, Ty.depth, Go.SE.look, reduceCtorEq, Nat.reduceAdd, Nat.reduceSub, Nat.reduceMul, Nat.reduceEqDiff, Nat.reduceLT, Nat.reduceLeDiff, Nat.reduceMod, Nat.reduceDiv, Nat.reducePow, Nat.reduceBEq, Int.reduceToNat, Int.reduceLE, Int.reduceLT, Int.reduceEq, Int.reduceAdd, Int.reduceMul, Int.reduceSub, Int.reduceNeg, Int.reduceNe, Try.TS]
      rw [hR, hF]
      simp
    · simp -dsimp -implicitDefEqProofs (disch := omega) only [↓gpre, ↓bldS, ↓bld, ↓reduceIte, ↓gmore, gpost, gall, keepT, den, del, upd, dels, refs, hasTy, sArgs, aRefs, rvs, nodupB, memB, app, pTm, Ty.bytes, kbytes, Ty.zeroD, Ty.size, Ty.cmp, Ty.depth, Go.SE.look, reduceCtorEq, Nat.reduceAdd, Nat.reduceSub, Nat.reduceMul, Nat.reduceEqDiff, Nat.reduceLT, Nat.reduceLeDiff, Nat.reduceMod, Nat.reduceDiv, Nat.reducePow, Nat.reduceBEq, Int.reduceToNat, Int.reduceLE, Int.reduceLT, Int.reduceEq, Int.reduceAdd, Int.reduceMul, Int.reduceSub, Int.reduceNeg, Int.reduceNe, Try.TS]
      repeat (refine And.intro (by omega) ?_)
      refine SCall.mono (c1) ?_; rintro rs rfl
      simp -dsimp -implicitDefEqProofs (disch := omega) only [↓gpre, ↓bldS, ↓bld, ↓reduceIte, ↓gmore, gpost, gall, keepT, den, del, upd, dels, refs, hasTy, sArgs, aRefs, rvs, nodupB, memB, app, pTm, Ty.bytes, kbytes, Ty.zeroD, Ty.size, Ty.cmp, Ty.depth, Go.SE.look, reduceCtorEq, Nat.reduceAdd, Nat.reduceSub, Nat.reduceMul, Nat.reduceEqDiff, Nat.reduceLT, Nat.reduceLeDiff, Nat.reduceMod, Nat.reduceDiv, Nat.reducePow, Nat.reduceBEq, Int.reduceToNat, Int.reduceLE, Int.reduceLT, Int.reduceEq, Int.reduceAdd, Int.reduceMul, Int.reduceSub, Int.reduceNeg, Int.reduceNe, Try.TS]
      repeat (refine And.intro (by omega) ?_)
      refine SCall.mono (c2) ?_; rintro rs rfl
      simp -dsimp -implicitDefEqProofs (disch := omega) only [↓gpre, ↓bldS, ↓bld, ↓reduceIte, ↓gmore, gpost, gall, keepT, den, del, upd, dels, refs, hasTy, sArgs, aRefs, rvs, nodupB, memB, app, pTm, Ty.bytes, kbytes, Ty.zeroD, Ty.size, Ty.cmp, Ty.depth, Go.SE.look, reduceCtorEq, Nat.reduceAdd, Nat.reduceSub, Nat.reduceMul, Nat.reduceEqDiff, Nat.reduceLT, Nat.reduceLeDiff, Nat.reduceMod, Nat.reduceDiv, Nat.reducePow, Nat.reduceBEq, Int.reduceToNat, Int.reduceLE, Int.reduceLT, Int.reduceEq, Int.reduceAdd, Int.reduceMul, Int.reduceSub, Int.reduceNeg, Int.reduceNe, Try.TS, mul16 d1, add16 d1 d2]
      refine sloop Try.hT (α := Nat) (fun k => ⟨52, [(5, .v (.d (.int .i64) (.n ((2 * k : Nat) : Int)))), (4, .v (.ref 0 [] 0 (uh t k).length)), (0, .v (.d .str (.s t)))], [(0, ⟨.arr (uh t k).length (.int .u8), .d (.arr (uh t k).length (.int .u8)) (.l (uh t k))⟩)], 1⟩) (fun k => k ≤ n ∧ okN t k = true) (fun k => n - k) 1 ?_ ⟨by omega, by rw [ho]; rfl⟩ ?_
      · refine sub_ren w0 [(0, 5)] rfl (by simp [keysLt]) rfl ?_ ?_
        · simp [renTm, Go.SE.look, renTV, renSV, hu]
        · simp [renOb, Go.SE.look, renSV, hu]
      · rintro k ⟨hk, hok⟩
        simp -dsimp -implicitDefEqProofs (disch := omega) only [↓gpre, ↓bldS, ↓bld, ↓reduceIte, ↓gmore, gpost, gall, keepT, den, del, upd, dels, refs, hasTy, sArgs, aRefs, rvs, nodupB, memB, app, pTm, Ty.bytes, kbytes, Ty.zeroD, Ty.size, Ty.cmp, Ty.depth, Go.SE.look, reduceCtorEq, Nat.reduceAdd, Nat.reduceSub, Nat.reduceMul, Nat.reduceEqDiff, Nat.reduceLT, Nat.reduceLeDiff, Nat.reduceMod, Nat.reduceDiv, Nat.reducePow, Nat.reduceBEq, Int.reduceToNat, Int.reduceLE, Int.reduceLT, Int.reduceEq, Int.reduceAdd, Int.reduceMul, Int.reduceSub, Int.reduceNeg, Int.reduceNe, Try.TS]
        refine HIf_dec (a := ()) (b := ()) (fun h => ?_) (fun h => ?_)
        · have c1 := halfRef (ch t (2 * k)) (ch_lt _ _)
          have c2 := halfRef (ch t (2 * k + 1)) (ch_lt _ _)
          have d1 := dg_lt (ch t (2 * k))
          have d2 := dg_lt (ch t (2 * k + 1))
          have hu : uh t (k + 1) = uh t k ++ [.n ((16 * (dg (ch t (2 * k))).1 + (dg (ch t (2 * k + 1))).1 : Nat) : Int)] := rfl
          have ho : okN t (k + 1) = (okN t k && ((dg (ch t (2 * k))).2 && (dg (ch t (2 * k + 1))).2)) := rfl
          have hf := @okN_false t (k + 1)
          have hl := uh_length t k
          generalize dg (ch t (2 * k)) = e1 at *
          generalize dg (ch t (2 * k + 1)) = e2 at *
          obtain ⟨v1, o1⟩ := e1
          obtain ⟨v2, o2⟩ := e2
          simp only at c1 c2 d1 d2 hu ho
          rw [hok, Bool.true_and] at ho
          rcases o1 with _ | _
          · have hF : okN t n = false := hf (by rw [ho]; rfl) n (by omega)
            simp -dsimp -implicitDefEqProofs (disch := omega) only [↓gpre, ↓bldS, ↓bld, ↓reduceIte, ↓gmore, gpost, gall, keepT, den, del, upd, dels, refs, hasTy, sArgs, aRefs, rvs, nodupB, memB, app, pTm, Ty.bytes, kbytes, Ty.zeroD, Ty.size, Ty.cmp, Ty.depth, Go.SE.look, reduceCtorEq, Nat.reduceAdd, Nat.reduceSub, Nat.reduceMul, Nat.reduceEqDiff, Nat.reduceLT, Nat.reduceLeDiff, Nat.reduceMod, Nat.reduceDiv, Nat.reducePow, Nat.reduceBEq, Int.reduceToNat, Int.reduceLE, Int.reduceLT, Int.reduceEq, Int.reduceAdd, Int.reduceMul, Int.reduceSub, Int.reduceNeg, Int.reduceNe, Try.TS]
            repeat (refine And.intro (by omega) ?_)
            refine SCall.mono (c1) ?_; rintro rs rfl
            simp -dsimp -implicitDefEqProofs (disch := omega) only [↓gpre, ↓bldS, ↓bld, ↓reduceIte, ↓gmore, gpost, gall, keepT, den, del, upd, dels, refs, hasTy, sArgs, aRefs, rvs, nodupB, memB, app, pTm, Ty.bytes, kbytes, Ty.zeroD, Ty.size, Ty.cmp, Ty.depth, Go.SE.look, reduceCtorEq, Nat.reduceAdd, Nat.reduceSub, Nat.reduceMul, Nat.reduceEqDiff, Nat.reduceLT, Nat.reduceLeDiff, Nat.reduceMod, Nat.reduceDiv, Nat.reducePow, Nat.reduceBEq, Int.reduceToNat, Int.reduceLE, Int.reduceLT, Int.reduceEq, Int.reduceAdd, Int.reduceMul, Int.reduceSub, Int.reduceNeg, Int.reduceNe, Try.TS]
            repeat (refine And.intro (by omega) ?_)
            refine SCall.mono (c2) ?_; rintro rs rfl
            simp -dsimp -implicitDefEqProofs (disch := omega) only [↓gpre, ↓bldS, ↓bld, ↓reduceIte, ↓gmore, gpost, gall, keepT, den, del, upd, dels, refs, hasTy, sArgs, aRefs, rvs, nodupB, memB, app, pTm, Ty.bytes, kbytes, Ty.zeroD, Ty.size, Ty.cmp, Ty.depth, Go.SE.look, reduceCtorEq, Nat.reduceAdd, Nat.reduceSub, Nat.reduceMul, Nat.reduceEqDiff, Nat.reduceLT, Nat.reduceLeDiff, Nat.reduceMod, Nat.reduceDiv, Nat.reducePow, Nat.reduceBEq, Int.reduceToNat, Int.reduceLE, Int.reduceLT, Int.reduceEq, Int.reduceAdd, Int.reduceMul, Int.reduceSub, Int.reduceNeg, Int.reduceNe, Try.TS]
            rw [hR, hF]
            simp
          rcases o2 with _ | _
          · have hF : okN t n = false := hf (by rw [ho]; rfl) n (by omega)
            simp -dsimp -implicitDefEqProofs (disch := omega) only [↓gpre, ↓bldS, ↓bld, ↓reduceIte, ↓gmore, gpost, gall, keepT, den, del, upd, dels, refs, hasTy, sArgs, aRefs, rvs, nodupB, memB, app, pTm, Ty.bytes, kbytes, Ty.zeroD, Ty.size, Ty.cmp, Ty.depth, Go.SE.look, reduceCtorEq, Nat.reduceAdd, Nat.reduceSub, Nat.reduceMul, Nat.reduceEqDiff, Nat.reduceLT, Nat.reduceLeDiff, Nat.reduceMod, Nat.reduceDiv, Nat.reducePow, Nat.reduceBEq, Int.reduceToNat, Int.reduceLE, Int.reduceLT, Int.reduceEq, Int.reduceAdd, Int.reduceMul, Int.reduceSub, Int.reduceNeg, Int.reduceNe, Try.TS]
            repeat (refine And.intro (by omega) ?_)
            refine SCall.mono (c1) ?_; rintro rs rfl
            simp -dsimp -implicitDefEqProofs (disch := omega) only [↓gpre, ↓bldS, ↓bld, ↓reduceIte, ↓gmore, gpost, gall, keepT, den, del, upd, dels, refs, hasTy, sArgs, aRefs, rvs, nodupB, memB, app, pTm, Ty.bytes, kbytes, Ty.zeroD, Ty.size, Ty.cmp, Ty.depth, Go.SE.look, reduceCtorEq, Nat.reduceAdd, Nat.reduceSub, Nat.reduceMul, Nat.reduceEqDiff, Nat.reduceLT, Nat.reduceLeDiff, Nat.reduceMod, Nat.reduceDiv, Nat.reducePow, Nat.reduceBEq, Int.reduceToNat, Int.reduceLE, Int.reduceLT, Int.reduceEq, Int.reduceAdd, Int.reduceMul, Int.reduceSub, Int.reduceNeg, Int.reduceNe, Try.TS]
            repeat (refine And.intro (by omega) ?_)
            refine SCall.mono (c2) ?_; rintro rs rfl
            simp -dsimp -implicitDefEqProofs (disch := omega) only [↓gpre, ↓bldS, ↓bld, ↓reduceIte, ↓gmore, gpost, gall, keepT, den, del, upd, dels, refs, hasTy, sArgs, aRefs, rvs, nodupB, memB, app, pTm, Ty.bytes, kbytes, Ty.zeroD, Ty.size, Ty.cmp, Ty.depth, Go.SE.look, reduceCtorEq, Nat.reduceAdd, Nat.reduceSub, Nat.reduceMul, Nat.reduceEqDiff, Nat.reduceLT, Nat.reduceLeDiff, Nat.reduceMod, Nat.reduceDiv, Nat.reducePow, Nat.reduceBEq, Int.reduceToNat, Int.reduceLE, Int.reduceLT, Int.reduceEq, Int.reduceAdd, Int.reduceMul, Int.reduceSub, Int.reduceNeg, Int.reduceNe, Try.TS]
            rw [hR, hF]
            simp
          · simp -dsimp -implicitDefEqProofs (disch := omega) only [↓gpre, ↓bldS, ↓bld, ↓reduceIte, ↓gmore, gpost, gall, keepT, den, del, upd, dels, refs, hasTy, sArgs, aRefs, rvs, nodupB, memB, app, pTm, Ty.bytes, kbytes, Ty.zeroD, Ty.size, Ty.cmp, Ty.depth, Go.SE.look, reduceCtorEq, Nat.reduceAdd, Nat.reduceSub, Nat.reduceMul, Nat.reduceEqDiff, Nat.reduceLT, Nat.reduceLeDiff, Nat.reduceMod, Nat.reduceDiv, Nat.reducePow, Nat.reduceBEq, Int.reduceToNat, Int.reduceLE, Int.reduceLT, Int.reduceEq, Int.reduceAdd, Int.reduceMul, Int.reduceSub, Int.reduceNeg, Int.reduceNe, Try.TS]
            repeat (refine And.intro (by omega) ?_)
            refine SCall.mono (c1) ?_; rintro rs rfl
            simp -dsimp -implicitDefEqProofs (disch := omega) only [↓gpre, ↓bldS, ↓bld, ↓reduceIte, ↓gmore, gpost, gall, keepT, den, del, upd, dels, refs, hasTy, sArgs, aRefs, rvs, nodupB, memB, app, pTm, Ty.bytes, kbytes, Ty.zeroD, Ty.size, Ty.cmp, Ty.depth, Go.SE.look, reduceCtorEq, Nat.reduceAdd, Nat.reduceSub, Nat.reduceMul, Nat.reduceEqDiff, Nat.reduceLT, Nat.reduceLeDiff, Nat.reduceMod, Nat.reduceDiv, Nat.reducePow, Nat.reduceBEq, Int.reduceToNat, Int.reduceLE, Int.reduceLT, Int.reduceEq, Int.reduceAdd, Int.reduceMul, Int.reduceSub, Int.reduceNeg, Int.reduceNe, Try.TS]
            repeat (refine And.intro (by omega) ?_)
            refine SCall.mono (c2) ?_; rintro rs rfl
            simp -dsimp -implicitDefEqProofs (disch := omega) only [↓gpre, ↓bldS, ↓bld, ↓reduceIte, ↓gmore, gpost, gall, keepT, den, del, upd, dels, refs, hasTy, sArgs, aRefs, rvs, nodupB, memB, app, pTm, Ty.bytes, kbytes, Ty.zeroD, Ty.size, Ty.cmp, Ty.depth, Go.SE.look, reduceCtorEq, Nat.reduceAdd, Nat.reduceSub, Nat.reduceMul, Nat.reduceEqDiff, Nat.reduceLT, Nat.reduceLeDiff, Nat.reduceMod, Nat.reduceDiv, Nat.reducePow, Nat.reduceBEq, Int.reduceToNat, Int.reduceLE, Int.reduceLT, Int.reduceEq, Int.reduceAdd, Int.reduceMul, Int.reduceSub, Int.reduceNeg, Int.reduceNe, Try.TS, mul16 d1, add16 d1 d2]
            repeat (refine And.intro (by omega) ?_)
            refine ⟨k + 1, ⟨by omega, by rw [ho]; rfl⟩, by omega, ?_⟩
            refine sub_ren w0 [(0, 6)] rfl (by simp [keysLt]) rfl ?_ ?_
            · simp [renTm, Go.SE.look, renTV, renSV, hu]; omega
            · simp [renOb, Go.SE.look, renSV, hu]
        · simp -dsimp -implicitDefEqProofs (disch := omega) only [↓gpre, ↓bldS, ↓bld, ↓reduceIte, ↓gmore, gpost, gall, keepT, den, del, upd, dels, refs, hasTy, sArgs, aRefs, rvs, nodupB, memB, app, pTm, Ty.bytes, kbytes, Ty.zeroD, Ty.size, Ty.cmp, Ty.depth, Go.SE.look, reduceCtorEq, Nat.reduceAdd, Nat.reduceSub, Nat.reduceMul, Nat.reduceEqDiff, Nat.reduceLT, Nat.reduceLeDiff, Nat.reduceMod, Nat.reduceDiv, Nat.reducePow, Nat.reduceBEq, Int.reduceToNat, Int.reduceLE, Int.reduceLT, Int.reduceEq, Int.reduceAdd, Int.reduceMul, Int.reduceSub, Int.reduceNeg, Int.reduceNe, Try.TS]
          have e : k = n := by omega
          subst e
          rw [hR, if_pos hok]
  · simp -dsimp -implicitDefEqProofs (disch := omega) only [↓gpre, ↓bldS, ↓bld, ↓reduceIte, ↓gmore, gpost, gall, keepT, den, del, upd, dels, refs, hasTy, sArgs, aRefs, rvs, nodupB, memB, app, pTm, Ty.bytes, kbytes, Ty.zeroD, Ty.size, Ty.cmp, Ty.depth, Go.SE.look, reduceCtorEq, Nat.reduceAdd, Nat.reduceSub, Nat.reduceMul, Nat.reduceEqDiff, Nat.reduceLT, Nat.reduceLeDiff, Nat.reduceMod, Nat.reduceDiv, Nat.reducePow, Nat.reduceBEq, Int.reduceToNat, Int.reduceLE, Int.reduceLT, Int.reduceEq, Int.reduceAdd, Int.reduceMul, Int.reduceSub, Int.reduceNeg, Int.reduceNe, Try.TS]
    have e : n = 0 := by omega
    subst e
    rw [hR]
    rfl
end Go.Proofs
