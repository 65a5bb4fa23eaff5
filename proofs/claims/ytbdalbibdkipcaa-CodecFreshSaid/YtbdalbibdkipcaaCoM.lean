/- Byte strings at a place. -/
import Derived.Test.YtbdalbibdkipcaaCoL
set_option linter.unusedVariables false
set_option linter.unusedSimpArgs false
set_option linter.constructorNameAsVariable false
namespace Go.Proofs
open Go.SE

theorem fin_cases (r : Nat × Int × Int) (least most : Nat) : (∃ e : Int, e ≠ 0 ∧ fin r least most = (0, 0, e)) ∨ (r.2.2 = 0 ∧ least ≤ r.1 ∧ r.1 ≤ most ∧ fin r least most = (r.1, r.2.1, 0)) := by
  unfold fin
  split
  · rename_i h; exact .inl ⟨_, h, rfl⟩
  · rename_i h
    split
    · exact .inl ⟨3, by omega, rfl⟩
    · split
      · exact .inl ⟨4, by omega, rfl⟩
      · exact .inr ⟨by omega, by omega, by omega, rfl⟩

theorem sizeR_at (b : List D) (p : Int) (most : Nat) : (∃ e : Int, e ≠ 0 ∧ sizeR b p most = (0, 0, e)) ∨
    ∃ a n k : Nat, p = a ∧ sizeR b p most = (n, (k : Int), 0) ∧ a < k ∧ k ≤ b.length ∧ n ≤ most := by
  rcases getR_cases b p 1 with ⟨e, he, hg⟩ | ⟨a, rfl, hl, hg⟩
  · left
    refine ⟨e, by omega, ?_⟩
    unfold sizeR
    rw [hg, if_pos (show ¬ e = 0 by omega)]
  · have big : ∀ (k L : Nat), sizeR b a most = fin (getR b ((a : Int) + 1) k) L most →
        (∃ e : Int, e ≠ 0 ∧ sizeR b a most = (0, 0, e)) ∨ ∃ a' n k : Nat, (a : Int) = a' ∧ sizeR b a most = (n, (k : Int), 0) ∧ a' < k ∧ k ≤ b.length ∧ n ≤ most := by
      intro k L hs
      rw [hs]
      rcases fin_cases (getR b ((a : Int) + 1) k) L most with h | ⟨h1, h2, h3, h4⟩
      · exact .inl h
      · right
        rcases getR_cases b ((a : Int) + 1) k with ⟨e, he, hg2⟩ | ⟨a2, ha2, hl2, hg2⟩
        · rw [hg2] at h1; simp only at h1; omega
        · have ha1 : a2 = a + 1 := by omega
          subst ha1
          rw [hg2] at h3 h4
          simp only at h3 h4
          exact ⟨a, num b (a + 1) k, a + 1 + k, rfl, by rw [hg2, h4]; simp, by omega, by omega, h3⟩
    by_cases h3 : num b a 1 = 253
    · exact big 2 253 (by unfold sizeR; rw [hg, if_neg (fun h => h rfl)]; simp [h3])
    by_cases h4 : num b a 1 = 254
    · exact big 4 65536 (by unfold sizeR; rw [hg, if_neg (fun h => h rfl)]; simp [h4])
    by_cases h5 : num b a 1 = 255
    · exact big 8 4294967296 (by unfold sizeR; rw [hg, if_neg (fun h => h rfl)]; simp [h5])
    have hs : sizeR b a most = fin (num b a 1, (a : Int) + 1, 0) 0 most := by unfold sizeR; rw [hg, if_neg (fun h => h rfl)]; simp [h3, h4, h5]
    rw [hs]
    rcases fin_cases (num b a 1, (a : Int) + 1, 0) 0 most with h | ⟨_, _, h7, h8⟩
    · exact .inl h
    · exact .inr ⟨a, num b a 1, a + 1, rfl, by rw [h8]; simp, by omega, by omega, h7⟩

/-- A byte string at a place: its bytes, the place behind it, the error. -/
def bytesR (b : List D) (p m : Int) : List D × Int × Int :=
  if m < 0 then ([], 0, 5)
  else if (sizeR b p m.toNat).2.2 ≠ 0 then ([], 0, (sizeR b p m.toNat).2.2)
  else if b.length - (sizeR b p m.toNat).2.1 < (sizeR b p m.toNat).1 then ([], 0, 1)
  else ((b.drop (sizeR b p m.toNat).2.1.toNat).take (sizeR b p m.toNat).1, (sizeR b p m.toNat).2.1 + (sizeR b p m.toNat).1, 0)

theorem sizeR_range (b : List D) (p : Int) (m : Nat) (h : p < 0 ∨ b.length < p) : (sizeR b p m).2.2 = 5 := by
  unfold sizeR
  have : getR b p 1 = (0, 0, 5) := by unfold getR; rw [if_pos h]
  rw [this, if_pos (by decide)]

theorem bytesR_lt {b : List D} (hB : BY b) (p m : Int) : BY (bytesR b p m).1 := by
  unfold bytesR
  split
  · exact BY.nil
  · split
    · exact BY.nil
    · split
      · exact BY.nil
      · exact fun x hx => hB x (List.mem_of_mem_drop (List.mem_of_mem_take hx))

theorem u64_of_i64 {m : Int} (h : 0 ≤ m ∧ m ≤ 9223372036854775807) : IntKind.u64.wrap m = ((m.toNat : Nat) : Int) := by rw [IntWalk.u64_in _ (by omega)]; omega

theorem bytesR_range {b : List D} {p m : Int} (h : p < 0 ∨ b.length < p) : bytesR b p m = ([], 0, 5) := by
  unfold bytesR
  rw [sizeR_range b p _ h]
  split <;> simp

set_option maxHeartbeats 2000000 in
theorem bytes' (b : List D) (p m : Int) (hB : BY b) (hb : b.length ≤ 140737488351232) (hp : -9223372036854775808 ≤ p ∧ p ≤ 9223372036854775807) (hm : -9223372036854775808 ≤ m ∧ m ≤ 9223372036854775807) :
    SCall Try.prog 28 [(.sl (.int .u8), .l b), (.int .i64, .n p), (.int .i64, .n m)] (fun rs => rs = [.own (.int .u8) (bytesR b p m).1, .d (.int .i64) (.n (bytesR b p m).2.1), .d (.int .i64) (.n (bytesR b p m).2.2)]) := by
  refine scall_intro (n := 55) (rl := [.tmp 6, .tmp 7, .tmp 8]) (us := [22, 3, 25]) Try.hT Try.func28 rfl rfl rfl rfl rfl (Nat.le_of_ble_eq_true rfl) ?_
  intro w0
  simp -dsimp -implicitDefEqProofs (disch := omega) only [↓gpre, ↓bldS, ↓bld, ↓reduceIte, ↓gmore, gpost, gall, keepT, den, del, upd, dels, refs, hasTy, sArgs, aRefs, rvs, nodupB, memB, app, pTm, Ty.bytes, kbytes, Ty.zeroD, Ty.size, Ty.cmp, Ty.depth, Go.SE.look, reduceCtorEq, Nat.reduceAdd, Nat.reduceSub, Nat.reduceMul, Nat.reduceEqDiff, Nat.reduceLT, Nat.reduceLeDiff, Nat.reduceMod, Nat.reduceDiv, Nat.reducePow, Nat.reduceBEq, Int.reduceToNat, Int.reduceLE, Int.reduceLT, Int.reduceEq, Int.reduceAdd, Int.reduceMul, Int.reduceSub, Int.reduceNeg, Int.reduceNe, Try.TS]
  refine HIf_dec (a := ()) (b := ()) (fun h1 => ?_) (fun h1 => ?_)
  · simp -dsimp -implicitDefEqProofs (disch := omega) only [↓gpre, ↓bldS, ↓bld, ↓reduceIte, ↓gmore, gpost, gall, keepT, den, del, upd, dels, refs, hasTy, sArgs, aRefs, rvs, nodupB, memB, app, pTm, Ty.bytes, kbytes, Ty.zeroD, Ty.size, Ty.cmp, Ty.depth, Go.SE.look, reduceCtorEq, Nat.reduceAdd, Nat.reduceSub, Nat.reduceMul, Nat.reduceEqDiff, Nat.reduceLT, Nat.reduceLeDiff, Nat.reduceMod, Nat.reduceDiv, Nat.reducePow, Nat.reduceBEq, Int.reduceToNat, Int.reduceLE, Int.reduceLT, Int.reduceEq, Int.reduceAdd, Int.reduceMul, Int.reduceSub, Int.reduceNeg, Int.reduceNe, Try.TS]
    rw [bytesR_range (.inl h1)]
  simp -dsimp -implicitDefEqProofs (disch := omega) only [↓gpre, ↓bldS, ↓bld, ↓reduceIte, ↓gmore, gpost, gall, keepT, den, del, upd, dels, refs, hasTy, sArgs, aRefs, rvs, nodupB, memB, app, pTm, Ty.bytes, kbytes, Ty.zeroD, Ty.size, Ty.cmp, Ty.depth, Go.SE.look, reduceCtorEq, Nat.reduceAdd, Nat.reduceSub, Nat.reduceMul, Nat.reduceEqDiff, Nat.reduceLT, Nat.reduceLeDiff, Nat.reduceMod, Nat.reduceDiv, Nat.reducePow, Nat.reduceBEq, Int.reduceToNat, Int.reduceLE, Int.reduceLT, Int.reduceEq, Int.reduceAdd, Int.reduceMul, Int.reduceSub, Int.reduceNeg, Int.reduceNe, Try.TS]
  refine HIf_dec (a := ()) (b := ()) (fun h2 => ?_) (fun h2 => ?_)
  · simp -dsimp -implicitDefEqProofs (disch := omega) only [↓gpre, ↓bldS, ↓bld, ↓reduceIte, ↓gmore, gpost, gall, keepT, den, del, upd, dels, refs, hasTy, sArgs, aRefs, rvs, nodupB, memB, app, pTm, Ty.bytes, kbytes, Ty.zeroD, Ty.size, Ty.cmp, Ty.depth, Go.SE.look, reduceCtorEq, Nat.reduceAdd, Nat.reduceSub, Nat.reduceMul, Nat.reduceEqDiff, Nat.reduceLT, Nat.reduceLeDiff, Nat.reduceMod, Nat.reduceDiv, Nat.reducePow, Nat.reduceBEq, Int.reduceToNat, Int.reduceLE, Int.reduceLT, Int.reduceEq, Int.reduceAdd, Int.reduceMul, Int.reduceSub, Int.reduceNeg, Int.reduceNe, Try.TS]
    rw [bytesR_range (.inr h2)]
  simp -dsimp -implicitDefEqProofs (disch := omega) only [↓gpre, ↓bldS, ↓bld, ↓reduceIte, ↓gmore, gpost, gall, keepT, den, del, upd, dels, refs, hasTy, sArgs, aRefs, rvs, nodupB, memB, app, pTm, Ty.bytes, kbytes, Ty.zeroD, Ty.size, Ty.cmp, Ty.depth, Go.SE.look, reduceCtorEq, Nat.reduceAdd, Nat.reduceSub, Nat.reduceMul, Nat.reduceEqDiff, Nat.reduceLT, Nat.reduceLeDiff, Nat.reduceMod, Nat.reduceDiv, Nat.reducePow, Nat.reduceBEq, Int.reduceToNat, Int.reduceLE, Int.reduceLT, Int.reduceEq, Int.reduceAdd, Int.reduceMul, Int.reduceSub, Int.reduceNeg, Int.reduceNe, Try.TS]
  refine HIf_dec (a := ()) (b := ()) (fun h3 => ?_) (fun h3 => ?_)
  · simp -dsimp -implicitDefEqProofs (disch := omega) only [↓gpre, ↓bldS, ↓bld, ↓reduceIte, ↓gmore, gpost, gall, keepT, den, del, upd, dels, refs, hasTy, sArgs, aRefs, rvs, nodupB, memB, app, pTm, Ty.bytes, kbytes, Ty.zeroD, Ty.size, Ty.cmp, Ty.depth, Go.SE.look, reduceCtorEq, Nat.reduceAdd, Nat.reduceSub, Nat.reduceMul, Nat.reduceEqDiff, Nat.reduceLT, Nat.reduceLeDiff, Nat.reduceMod, Nat.reduceDiv, Nat.reducePow, Nat.reduceBEq, Int.reduceToNat, Int.reduceLE, Int.reduceLT, Int.reduceEq, Int.reduceAdd, Int.reduceMul, Int.reduceSub, Int.reduceNeg, Int.reduceNe, Try.TS]
    unfold bytesR
    rw [if_pos h3]
  obtain ⟨m, rfl⟩ : ∃ m' : Nat, m = m' := ⟨m.toNat, by omega⟩
  simp -dsimp -implicitDefEqProofs (disch := omega) only [↓gpre, ↓bldS, ↓bld, ↓reduceIte, ↓gmore, gpost, gall, keepT, den, del, upd, dels, refs, hasTy, sArgs, aRefs, rvs, nodupB, memB, app, pTm, Ty.bytes, kbytes, Ty.zeroD, Ty.size, Ty.cmp, Ty.depth, Go.SE.look, reduceCtorEq, Nat.reduceAdd, Nat.reduceSub, Nat.reduceMul, Nat.reduceEqDiff, Nat.reduceLT, Nat.reduceLeDiff, Nat.reduceMod, Nat.reduceDiv, Nat.reducePow, Nat.reduceBEq, Int.reduceToNat, Int.reduceLE, Int.reduceLT, Int.reduceEq, Int.reduceAdd, Int.reduceMul, Int.reduceSub, Int.reduceNeg, Int.reduceNe, Try.TS]
  refine SCall.mono (size' b p m hB (by omega) hp (by omega)) ?_; rintro rs rfl
  have hbr : bytesR b p m = if (sizeR b p m).2.2 ≠ 0 then ([], 0, (sizeR b p m).2.2)
    else if b.length - (sizeR b p m).2.1 < (sizeR b p m).1 then ([], 0, 1)
    else ((b.drop (sizeR b p m).2.1.toNat).take (sizeR b p m).1, (sizeR b p m).2.1 + (sizeR b p m).1, 0) := by
    unfold bytesR; rw [if_neg h3]; simp only [Int.toNat_natCast]
  rcases sizeR_at b p m with ⟨e, he, hs⟩ | ⟨a, n, k, rfl, hs, hak, hkl, hnm⟩
  · rw [hs] at hbr ⊢
    simp -dsimp -implicitDefEqProofs (disch := omega) only [↓gpre, ↓bldS, ↓bld, ↓reduceIte, ↓gmore, gpost, gall, keepT, den, del, upd, dels, refs, hasTy, sArgs, aRefs, rvs, nodupB, memB, app, pTm, Ty.bytes, kbytes, Ty.zeroD, Ty.size, Ty.cmp, Ty.depth, Go.SE.look, reduceCtorEq, Nat.reduceAdd, Nat.reduceSub, Nat.reduceMul, Nat.reduceEqDiff, Nat.reduceLT, Nat.reduceLeDiff, Nat.reduceMod, Nat.reduceDiv, Nat.reducePow, Nat.reduceBEq, Int.reduceToNat, Int.reduceLE, Int.reduceLT, Int.reduceEq, Int.reduceAdd, Int.reduceMul, Int.reduceSub, Int.reduceNeg, Int.reduceNe, Try.TS]
    refine HIf_ndec (a := ()) (b := ()) (fun h4 => ?_) (fun h4 => ?_)
    · simp -dsimp -implicitDefEqProofs (disch := omega) only [↓gpre, ↓bldS, ↓bld, ↓reduceIte, ↓gmore, gpost, gall, keepT, den, del, upd, dels, refs, hasTy, sArgs, aRefs, rvs, nodupB, memB, app, pTm, Ty.bytes, kbytes, Ty.zeroD, Ty.size, Ty.cmp, Ty.depth, Go.SE.look, reduceCtorEq, Nat.reduceAdd, Nat.reduceSub, Nat.reduceMul, Nat.reduceEqDiff, Nat.reduceLT, Nat.reduceLeDiff, Nat.reduceMod, Nat.reduceDiv, Nat.reducePow, Nat.reduceBEq, Int.reduceToNat, Int.reduceLE, Int.reduceLT, Int.reduceEq, Int.reduceAdd, Int.reduceMul, Int.reduceSub, Int.reduceNeg, Int.reduceNe, Try.TS]
      rw [hbr, if_pos he]
    · exact absurd h4 he
  · rw [hs] at hbr ⊢
    rw [if_neg (fun h => h rfl)] at hbr
    simp only at hbr
    simp -dsimp -implicitDefEqProofs (disch := omega) only [↓gpre, ↓bldS, ↓bld, ↓reduceIte, ↓gmore, gpost, gall, keepT, den, del, upd, dels, refs, hasTy, sArgs, aRefs, rvs, nodupB, memB, app, pTm, Ty.bytes, kbytes, Ty.zeroD, Ty.size, Ty.cmp, Ty.depth, Go.SE.look, reduceCtorEq, Nat.reduceAdd, Nat.reduceSub, Nat.reduceMul, Nat.reduceEqDiff, Nat.reduceLT, Nat.reduceLeDiff, Nat.reduceMod, Nat.reduceDiv, Nat.reducePow, Nat.reduceBEq, Int.reduceToNat, Int.reduceLE, Int.reduceLT, Int.reduceEq, Int.reduceAdd, Int.reduceMul, Int.reduceSub, Int.reduceNeg, Int.reduceNe, Try.TS]
    refine HIf_dec (a := ()) (b := ()) (fun h4 => ?_) (fun h4 => ?_)
    · simp -dsimp -implicitDefEqProofs (disch := omega) only [↓gpre, ↓bldS, ↓bld, ↓reduceIte, ↓gmore, gpost, gall, keepT, den, del, upd, dels, refs, hasTy, sArgs, aRefs, rvs, nodupB, memB, app, pTm, Ty.bytes, kbytes, Ty.zeroD, Ty.size, Ty.cmp, Ty.depth, Go.SE.look, reduceCtorEq, Nat.reduceAdd, Nat.reduceSub, Nat.reduceMul, Nat.reduceEqDiff, Nat.reduceLT, Nat.reduceLeDiff, Nat.reduceMod, Nat.reduceDiv, Nat.reducePow, Nat.reduceBEq, Int.reduceToNat, Int.reduceLE, Int.reduceLT, Int.reduceEq, Int.reduceAdd, Int.reduceMul, Int.reduceSub, Int.reduceNeg, Int.reduceNe, Try.TS]
      rw [hbr, if_pos h4]
    · simp -dsimp -implicitDefEqProofs (disch := omega) only [↓gpre, ↓bldS, ↓bld, ↓reduceIte, ↓gmore, gpost, gall, keepT, den, del, upd, dels, refs, hasTy, sArgs, aRefs, rvs, nodupB, memB, app, pTm, Ty.bytes, kbytes, Ty.zeroD, Ty.size, Ty.cmp, Ty.depth, Go.SE.look, reduceCtorEq, Nat.reduceAdd, Nat.reduceSub, Nat.reduceMul, Nat.reduceEqDiff, Nat.reduceLT, Nat.reduceLeDiff, Nat.reduceMod, Nat.reduceDiv, Nat.reducePow, Nat.reduceBEq, Int.reduceToNat, Int.reduceLE, Int.reduceLT, Int.reduceEq, Int.reduceAdd, Int.reduceMul, Int.reduceSub, Int.reduceNeg, Int.reduceNe, Try.TS]
      rw [if_neg h4] at hbr
      simp only [Int.toNat_natCast] at hbr
      repeat (refine And.intro (by omega) ?_)
      have hle : (List.take n (List.drop k b)).length ≤ b.length := by rw [List.length_take, List.length_drop]; omega
      rw [hbr, show k + n - k = n by omega]
      exact ⟨by omega, by omega, rfl⟩

set_option maxHeartbeats 2000000 in
theorem bytesRef (b : List D) (p m : Int) (hB : BY b) (hb : b.length ≤ 140737488351232) (hp : -9223372036854775808 ≤ p ∧ p ≤ 9223372036854775807) (hm : -9223372036854775808 ≤ m ∧ m ≤ 9223372036854775807) :
    SCall Try.prog 29 [(.sl (.int .u8), .l b), (.int .i64, .n p), (.int .i64, .n m)] (fun rs => rs = [.own (.int .u8) (bytesR b p m).1, .d (.int .i64) (.n (bytesR b p m).2.1), .d (.int .i64) (.n (bytesR b p m).2.2)]) := by
  refine scall_intro (n := 45) (rl := [.tmp 6, .tmp 7, .tmp 8]) (us := [22, 3, 25]) Try.hT Try.func29 rfl rfl rfl rfl rfl (Nat.le_of_ble_eq_true rfl) ?_
  intro w0
  simp -dsimp -implicitDefEqProofs (disch := omega) only [↓gpre, ↓bldS, ↓bld, ↓reduceIte, ↓gmore, gpost, gall, keepT, den, del, upd, dels, refs, hasTy, sArgs, aRefs, rvs, nodupB, memB, app, pTm, Ty.bytes, kbytes, Ty.zeroD, Ty.size, Ty.cmp, Ty.depth, Go.SE.look, reduceCtorEq, Nat.reduceAdd, Nat.reduceSub, Nat.reduceMul, Nat.reduceEqDiff, Nat.reduceLT, Nat.reduceLeDiff, Nat.reduceMod, Nat.reduceDiv, Nat.reducePow, Nat.reduceBEq, Int.reduceToNat, Int.reduceLE, Int.reduceLT, Int.reduceEq, Int.reduceAdd, Int.reduceMul, Int.reduceSub, Int.reduceNeg, Int.reduceNe, Try.TS]
  refine HIf_dec (a := ()) (b := ()) (fun h3 => ?_) (fun h3 => ?_)
  · simp -dsimp -implicitDefEqProofs (disch := omega) only [↓gpre, ↓bldS, ↓bld, ↓reduceIte, ↓gmore, gpost, gall, keepT, den, del, upd, dels, refs, hasTy, sArgs, aRefs, rvs, nodupB, memB, app, pTm, Ty.bytes, kbytes, Ty.zeroD, Ty.size, Ty.cmp, Ty.depth, Go.SE.look, reduceCtorEq, Nat.reduceAdd, Nat.reduceSub, Nat.reduceMul, Nat.reduceEqDiff, Nat.reduceLT, Nat.reduceLeDiff, Nat.reduceMod, Nat.reduceDiv, Nat.reducePow, Nat.reduceBEq, Int.reduceToNat, Int.reduceLE, Int.reduceLT, Int.reduceEq, Int.reduceAdd, Int.reduceMul, Int.reduceSub, Int.reduceNeg, Int.reduceNe, Try.TS]
    unfold bytesR
    rw [if_pos h3]
  obtain ⟨m, rfl⟩ : ∃ m' : Nat, m = m' := ⟨m.toNat, by omega⟩
  simp -dsimp -implicitDefEqProofs (disch := omega) only [↓gpre, ↓bldS, ↓bld, ↓reduceIte, ↓gmore, gpost, gall, keepT, den, del, upd, dels, refs, hasTy, sArgs, aRefs, rvs, nodupB, memB, app, pTm, Ty.bytes, kbytes, Ty.zeroD, Ty.size, Ty.cmp, Ty.depth, Go.SE.look, reduceCtorEq, Nat.reduceAdd, Nat.reduceSub, Nat.reduceMul, Nat.reduceEqDiff, Nat.reduceLT, Nat.reduceLeDiff, Nat.reduceMod, Nat.reduceDiv, Nat.reducePow, Nat.reduceBEq, Int.reduceToNat, Int.reduceLE, Int.reduceLT, Int.reduceEq, Int.reduceAdd, Int.reduceMul, Int.reduceSub, Int.reduceNeg, Int.reduceNe, Try.TS]
  refine SCall.mono (sizeRef b p m hB (by omega) hp (by omega)) ?_; rintro rs rfl
  have hbr : bytesR b p m = if (sizeR b p m).2.2 ≠ 0 then ([], 0, (sizeR b p m).2.2)
    else if b.length - (sizeR b p m).2.1 < (sizeR b p m).1 then ([], 0, 1)
    else ((b.drop (sizeR b p m).2.1.toNat).take (sizeR b p m).1, (sizeR b p m).2.1 + (sizeR b p m).1, 0) := by
    unfold bytesR; rw [if_neg h3]; simp only [Int.toNat_natCast]
  rcases sizeR_at b p m with ⟨e, he, hs⟩ | ⟨a, n, k, rfl, hs, hak, hkl, hnm⟩
  · rw [hs] at hbr ⊢
    simp -dsimp -implicitDefEqProofs (disch := omega) only [↓gpre, ↓bldS, ↓bld, ↓reduceIte, ↓gmore, gpost, gall, keepT, den, del, upd, dels, refs, hasTy, sArgs, aRefs, rvs, nodupB, memB, app, pTm, Ty.bytes, kbytes, Ty.zeroD, Ty.size, Ty.cmp, Ty.depth, Go.SE.look, reduceCtorEq, Nat.reduceAdd, Nat.reduceSub, Nat.reduceMul, Nat.reduceEqDiff, Nat.reduceLT, Nat.reduceLeDiff, Nat.reduceMod, Nat.reduceDiv, Nat.reducePow, Nat.reduceBEq, Int.reduceToNat, Int.reduceLE, Int.reduceLT, Int.reduceEq, Int.reduceAdd, Int.reduceMul, Int.reduceSub, Int.reduceNeg, Int.reduceNe, Try.TS]
    refine HIf_ndec (a := ()) (b := ()) (fun h4 => ?_) (fun h4 => ?_)
    · simp -dsimp -implicitDefEqProofs (disch := omega) only [↓gpre, ↓bldS, ↓bld, ↓reduceIte, ↓gmore, gpost, gall, keepT, den, del, upd, dels, refs, hasTy, sArgs, aRefs, rvs, nodupB, memB, app, pTm, Ty.bytes, kbytes, Ty.zeroD, Ty.size, Ty.cmp, Ty.depth, Go.SE.look, reduceCtorEq, Nat.reduceAdd, Nat.reduceSub, Nat.reduceMul, Nat.reduceEqDiff, Nat.reduceLT, Nat.reduceLeDiff, Nat.reduceMod, Nat.reduceDiv, Nat.reducePow, Nat.reduceBEq, Int.reduceToNat, Int.reduceLE, Int.reduceLT, Int.reduceEq, Int.reduceAdd, Int.reduceMul, Int.reduceSub, Int.reduceNeg, Int.reduceNe, Try.TS]
      rw [hbr, if_pos he]
    · exact absurd h4 he
  · rw [hs] at hbr ⊢
    rw [if_neg (fun h => h rfl)] at hbr
    simp only at hbr
    simp -dsimp -implicitDefEqProofs (disch := omega) only [↓gpre, ↓bldS, ↓bld, ↓reduceIte, ↓gmore, gpost, gall, keepT, den, del, upd, dels, refs, hasTy, sArgs, aRefs, rvs, nodupB, memB, app, pTm, Ty.bytes, kbytes, Ty.zeroD, Ty.size, Ty.cmp, Ty.depth, Go.SE.look, reduceCtorEq, Nat.reduceAdd, Nat.reduceSub, Nat.reduceMul, Nat.reduceEqDiff, Nat.reduceLT, Nat.reduceLeDiff, Nat.reduceMod, Nat.reduceDiv, Nat.reducePow, Nat.reduceBEq, Int.reduceToNat, Int.reduceLE, Int.reduceLT, Int.reduceEq, Int.reduceAdd, Int.reduceMul, Int.reduceSub, Int.reduceNeg, Int.reduceNe, Try.TS]
    refine HIf_dec (a := ()) (b := ()) (fun h4 => ?_) (fun h4 => ?_)
    · simp -dsimp -implicitDefEqProofs (disch := omega) only [↓gpre, ↓bldS, ↓bld, ↓reduceIte, ↓gmore, gpost, gall, keepT, den, del, upd, dels, refs, hasTy, sArgs, aRefs, rvs, nodupB, memB, app, pTm, Ty.bytes, kbytes, Ty.zeroD, Ty.size, Ty.cmp, Ty.depth, Go.SE.look, reduceCtorEq, Nat.reduceAdd, Nat.reduceSub, Nat.reduceMul, Nat.reduceEqDiff, Nat.reduceLT, Nat.reduceLeDiff, Nat.reduceMod, Nat.reduceDiv, Nat.reducePow, Nat.reduceBEq, Int.reduceToNat, Int.reduceLE, Int.reduceLT, Int.reduceEq, Int.reduceAdd, Int.reduceMul, Int.reduceSub, Int.reduceNeg, Int.reduceNe, Try.TS]
      rw [hbr, if_pos h4]
    · simp -dsimp -implicitDefEqProofs (disch := omega) only [↓gpre, ↓bldS, ↓bld, ↓reduceIte, ↓gmore, gpost, gall, keepT, den, del, upd, dels, refs, hasTy, sArgs, aRefs, rvs, nodupB, memB, app, pTm, Ty.bytes, kbytes, Ty.zeroD, Ty.size, Ty.cmp, Ty.depth, Go.SE.look, reduceCtorEq, Nat.reduceAdd, Nat.reduceSub, Nat.reduceMul, Nat.reduceEqDiff, Nat.reduceLT, Nat.reduceLeDiff, Nat.reduceMod, Nat.reduceDiv, Nat.reducePow, Nat.reduceBEq, Int.reduceToNat, Int.reduceLE, Int.reduceLT, Int.reduceEq, Int.reduceAdd, Int.reduceMul, Int.reduceSub, Int.reduceNeg, Int.reduceNe, Try.TS]
      rw [if_neg h4] at hbr
      simp only [Int.toNat_natCast] at hbr
      have hle : (List.take n (List.drop k b)).length ≤ b.length := by rw [List.length_take, List.length_drop]; omega
      repeat (refine And.intro (by omega) ?_)
      rw [show k + n - k = n by omega]
      have hj := joinedN [] (List.take n (List.drop k b)) (by simp only [List.length_nil]; omega)
      rw [List.nil_append] at hj
      refine SCall.mono (hj) ?_; rintro rs rfl
      simp -dsimp -implicitDefEqProofs (disch := omega) only [↓gpre, ↓bldS, ↓bld, ↓reduceIte, ↓gmore, gpost, gall, keepT, den, del, upd, dels, refs, hasTy, sArgs, aRefs, rvs, nodupB, memB, app, pTm, Ty.bytes, kbytes, Ty.zeroD, Ty.size, Ty.cmp, Ty.depth, Go.SE.look, reduceCtorEq, Nat.reduceAdd, Nat.reduceSub, Nat.reduceMul, Nat.reduceEqDiff, Nat.reduceLT, Nat.reduceLeDiff, Nat.reduceMod, Nat.reduceDiv, Nat.reducePow, Nat.reduceBEq, Int.reduceToNat, Int.reduceLE, Int.reduceLT, Int.reduceEq, Int.reduceAdd, Int.reduceMul, Int.reduceSub, Int.reduceNeg, Int.reduceNe, Try.TS]
      rw [hbr]
end Go.Proofs
