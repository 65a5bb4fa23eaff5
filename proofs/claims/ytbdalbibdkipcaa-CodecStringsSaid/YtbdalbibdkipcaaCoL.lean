/- A size has one encoding. -/
import Derived.Test.YtbdalbibdkipcaaCoK
set_option linter.unusedVariables false
set_option linter.unusedSimpArgs false
set_option linter.constructorNameAsVariable false
namespace Go.Proofs
open Go.SE

theorem le_cons (x y k : Nat) (hx : x < 256) : le (x + 256 * y) (k + 1) = .n x :: le y k := by
  unfold le
  rw [List.range_succ_eq_map]
  simp only [List.map_cons, List.map_map, Nat.pow_zero, Nat.div_one]
  have h1 : (x + 256 * y) % 256 = x := by omega
  rw [h1]
  congr 1
  apply List.map_congr_left
  intro i _
  simp only [Function.comp, Nat.succ_eq_add_one]
  have h2 : (x + 256 * y) / 256 ^ (i + 1) = y / 256 ^ i := by
    have h3 : (x + 256 * y) / 256 = y := by omega
    rw [Nat.pow_succ, Nat.mul_comm (256 ^ i) 256, ← Nat.div_div_eq_div_mul, h3]
  rw [h2]

theorem le_one {x : Nat} (hx : x < 256) : le x 1 = [.n x] := by
  have := le_cons x 0 0 hx
  rw [Nat.mul_zero, Nat.add_zero] at this
  exact this

theorem byt_get {b : List D} (hB : BY b) {i : Nat} (hi : i < b.length) : b[i] = .n (byt b i) := by
  obtain ⟨n, e, _⟩ := hB.get i
  have : b.getD i default = b[i] := by simp [List.getD_eq_getElem?_getD, hi]
  rw [this] at e
  unfold byt
  rw [this, e]
  rfl

theorem le_num {b : List D} (hB : BY b) : ∀ (k a : Nat), a + k ≤ b.length → le (num b a k) k = (b.drop a).take k
  | 0, a, _ => rfl
  | k + 1, a, h => by
    rw [num, le_cons _ _ _ (hB.lt a), le_num hB k (a + 1) (by omega), List.drop_eq_getElem_cons (show a < b.length by omega), List.take_succ_cons, byt_get hB]

theorem sizeR_ok {b : List D} (hB : BY b) (most : Nat) : (∃ e : Int, e ≠ 0 ∧ sizeR b 0 most = (0, 0, e)) ∨
    ∃ n k : Nat, sizeR b 0 most = (n, (k : Int), 0) ∧ 0 < k ∧ k ≤ b.length ∧ n ≤ most ∧ n < 18446744073709551616 ∧ asz n = b.take k := by
  have fin_cases : ∀ (r : Nat × Int × Int) (least : Nat), (∃ e : Int, e ≠ 0 ∧ fin r least most = (0, 0, e)) ∨ (r.2.2 = 0 ∧ least ≤ r.1 ∧ r.1 ≤ most ∧ fin r least most = (r.1, r.2.1, 0)) := by
    intro r least
    unfold fin
    split
    · rename_i h; exact .inl ⟨_, h, rfl⟩
    · rename_i h
      split
      · exact .inl ⟨3, by omega, rfl⟩
      · split
        · exact .inl ⟨4, by omega, rfl⟩
        · exact .inr ⟨by omega, by omega, by omega, rfl⟩
  rcases getR_cases b 0 1 with ⟨e, he, hg⟩ | ⟨a, ha, hl, hg⟩
  · left
    refine ⟨e, by omega, ?_⟩
    unfold sizeR
    rw [hg, if_pos (show ¬ e = 0 by omega)]
  · have ha0 : a = 0 := by omega
    subst ha0
    have hf : num b 0 1 < 256 := num_lt hB 1 0
    have h0 : b.take 1 = [.n (num b 0 1)] := by
      have := le_num hB 1 0 (by omega)
      rw [List.drop_zero] at this
      rw [← this, le_one hf]
    have big : ∀ (k L : Nat), sizeR b 0 most = fin (getR b (0 + 1) k) L most → k ≤ 8 → (∀ n, L ≤ n → n < 256 ^ k → asz n = .n (num b 0 1) :: le n k) →
        (∃ e : Int, e ≠ 0 ∧ sizeR b 0 most = (0, 0, e)) ∨ ∃ n k : Nat, sizeR b 0 most = (n, (k : Int), 0) ∧ 0 < k ∧ k ≤ b.length ∧ n ≤ most ∧ n < 18446744073709551616 ∧ asz n = b.take k := by
      intro k L hs hk8 hasz
      rw [hs]
      rcases fin_cases (getR b (0 + 1) k) L with h | ⟨h1, h2, h3, h4⟩
      · exact .inl h
      · right
        rcases getR_cases b (0 + 1) k with ⟨e, he, hg2⟩ | ⟨a2, ha2, hl2, hg2⟩
        · rw [hg2] at h1; simp only at h1; omega
        · have ha1 : a2 = 1 := by omega
          subst ha1
          rw [hg2] at h2 h3 h4
          simp only at h2 h3 h4
          have hn := num_lt hB k 1
          have h256 : 256 ^ k ≤ 256 ^ 8 := Nat.pow_le_pow_right (by omega) hk8
          refine ⟨num b 1 k, 1 + k, by rw [hg2, h4]; simp, by omega, by omega, h3, by omega, ?_⟩
          rw [hasz _ h2 hn, le_num hB k 1 (by omega)]
          have hne : b = b.take 1 ++ b.drop 1 := (List.take_append_drop 1 b).symm
          have : b.take (1 + k) = b.take 1 ++ (b.drop 1).take k := by rw [List.take_add]
          rw [this, h0]
          rfl
    by_cases h3 : num b 0 1 = 253
    · refine big 2 253 ?_ (by omega) ?_
      · unfold sizeR; rw [hg, if_neg (fun h => h rfl)]; simp [h3]
      · intro n h4 h5
        unfold asz
        rw [if_neg (by omega), if_pos (by omega), h3]
        rfl
    by_cases h4 : num b 0 1 = 254
    · refine big 4 65536 ?_ (by omega) ?_
      · unfold sizeR; rw [hg, if_neg (fun h => h rfl)]; simp [h4]
      · intro n h5 h6
        unfold asz
        rw [if_neg (by omega), if_neg (by omega), if_pos (by omega), h4]
        rfl
    by_cases h5 : num b 0 1 = 255
    · refine big 8 4294967296 ?_ (by omega) ?_
      · unfold sizeR; rw [hg, if_neg (fun h => h rfl)]; simp [h5]
      · intro n h6 h7
        unfold asz
        rw [if_neg (by omega), if_neg (by omega), if_neg (by omega), h5]
        rfl
    have hs : sizeR b 0 most = fin (num b 0 1, 0 + 1, 0) 0 most := by unfold sizeR; rw [hg, if_neg (fun h => h rfl)]; simp [h3, h4, h5]
    rw [hs]
    rcases fin_cases (num b 0 1, 0 + 1, 0) 0 with h | ⟨_, _, h7, h8⟩
    · exact .inl h
    · right
      simp only at h7 h8
      refine ⟨num b 0 1, 1, by rw [h8]; rfl, by omega, by omega, h7, by omega, ?_⟩
      rw [h0]
      unfold asz
      rw [if_pos (by omega), le_one hf]

set_option maxHeartbeats 4000000 in
set_option maxRecDepth 100000 in
theorem codecCanonical (b : List D) (most : Nat) (hB : BY b) (hb : b.length ≤ 9223372036854775807) (hm : most < 18446744073709551616) :
    SCall Try.prog 4 [(.sl (.int .u8), .l b), (.int .u64, .n most)] (fun rs => rs = [.d .bool (.b true)]) := by
  refine scall_intro (n := 48) (rl := [.tmp 4]) (us := [4]) Try.hT Try.func4 rfl rfl rfl rfl rfl (Nat.le_of_ble_eq_true rfl) ?_
  intro w0
  simp -dsimp -implicitDefEqProofs (disch := omega) only [↓gpre, ↓bldS, ↓bld, ↓reduceIte, ↓gmore, gpost, gall, keepT, den, del, upd, dels, refs, hasTy, sArgs, aRefs, rvs, nodupB, memB, app, pTm, Ty.bytes, kbytes, Ty.zeroD, Ty.size, Ty.cmp, Ty.depth, Go.SE.look, reduceCtorEq, Nat.reduceAdd, Nat.reduceSub, Nat.reduceMul, Nat.reduceEqDiff, Nat.reduceLT, Nat.reduceLeDiff, Nat.reduceMod, Nat.reduceDiv, Nat.reducePow, Nat.reduceBEq, Int.reduceToNat, Int.reduceLE, Int.reduceLT, Int.reduceEq, Int.reduceAdd, Int.reduceMul, Int.reduceSub, Int.reduceNeg, Int.reduceNe, Try.TS]
  refine SCall.mono (sane') ?_
  rintro rs rfl
  simp -dsimp -implicitDefEqProofs (disch := omega) only [↓gpre, ↓bldS, ↓bld, ↓reduceIte, ↓gmore, gpost, gall, keepT, den, del, upd, dels, refs, hasTy, sArgs, aRefs, rvs, nodupB, memB, app, pTm, Ty.bytes, kbytes, Ty.zeroD, Ty.size, Ty.cmp, Ty.depth, Go.SE.look, reduceCtorEq, Nat.reduceAdd, Nat.reduceSub, Nat.reduceMul, Nat.reduceEqDiff, Nat.reduceLT, Nat.reduceLeDiff, Nat.reduceMod, Nat.reduceDiv, Nat.reducePow, Nat.reduceBEq, Int.reduceToNat, Int.reduceLE, Int.reduceLT, Int.reduceEq, Int.reduceAdd, Int.reduceMul, Int.reduceSub, Int.reduceNeg, Int.reduceNe, Try.TS]
  refine SCall.mono (size' b 0 most hB hb (by omega) (by omega)) ?_
  rintro rs rfl
  rcases sizeR_ok hB most with ⟨e, he, hs⟩ | ⟨n, k, hs, hk0, hkl, hnm, hn64, ha⟩
  · rw [hs]
    simp -dsimp -implicitDefEqProofs (disch := omega) only [↓gpre, ↓bldS, ↓bld, ↓reduceIte, ↓gmore, gpost, gall, keepT, den, del, upd, dels, refs, hasTy, sArgs, aRefs, rvs, nodupB, memB, app, pTm, Ty.bytes, kbytes, Ty.zeroD, Ty.size, Ty.cmp, Ty.depth, Go.SE.look, reduceCtorEq, Nat.reduceAdd, Nat.reduceSub, Nat.reduceMul, Nat.reduceEqDiff, Nat.reduceLT, Nat.reduceLeDiff, Nat.reduceMod, Nat.reduceDiv, Nat.reducePow, Nat.reduceBEq, Int.reduceToNat, Int.reduceLE, Int.reduceLT, Int.reduceEq, Int.reduceAdd, Int.reduceMul, Int.reduceSub, Int.reduceNeg, Int.reduceNe, Try.TS]
    refine HIf_ndec (fun h => ?_) (fun h => absurd h he)
    simp -dsimp -implicitDefEqProofs (disch := omega) only [↓gpre, ↓bldS, ↓bld, ↓reduceIte, ↓gmore, gpost, gall, keepT, den, del, upd, dels, refs, hasTy, sArgs, aRefs, rvs, nodupB, memB, app, pTm, Ty.bytes, kbytes, Ty.zeroD, Ty.size, Ty.cmp, Ty.depth, Go.SE.look, reduceCtorEq, Nat.reduceAdd, Nat.reduceSub, Nat.reduceMul, Nat.reduceEqDiff, Nat.reduceLT, Nat.reduceLeDiff, Nat.reduceMod, Nat.reduceDiv, Nat.reducePow, Nat.reduceBEq, Int.reduceToNat, Int.reduceLE, Int.reduceLT, Int.reduceEq, Int.reduceAdd, Int.reduceMul, Int.reduceSub, Int.reduceNeg, Int.reduceNe, Try.TS]
  rw [hs]
  simp -dsimp -implicitDefEqProofs (disch := omega) only [↓gpre, ↓bldS, ↓bld, ↓reduceIte, ↓gmore, gpost, gall, keepT, den, del, upd, dels, refs, hasTy, sArgs, aRefs, rvs, nodupB, memB, app, pTm, Ty.bytes, kbytes, Ty.zeroD, Ty.size, Ty.cmp, Ty.depth, Go.SE.look, reduceCtorEq, Nat.reduceAdd, Nat.reduceSub, Nat.reduceMul, Nat.reduceEqDiff, Nat.reduceLT, Nat.reduceLeDiff, Nat.reduceMod, Nat.reduceDiv, Nat.reducePow, Nat.reduceBEq, Int.reduceToNat, Int.reduceLE, Int.reduceLT, Int.reduceEq, Int.reduceAdd, Int.reduceMul, Int.reduceSub, Int.reduceNeg, Int.reduceNe, Try.TS]
  refine sdraw Try.hT (by kernel_rfl) [] [0, 1, 2, 3, 4, 5, 6, 7, 8, 9, 10, 11, 12, 13, 14, 17, 18, 19, 20, 15, 16, 21, 22, 23] (by kernel_rfl) (by kernel_rfl) (by kernel_rfl) ?_; simp only [pickO, List.getElem?_toArray, List.getElem?_cons_zero, List.getElem?_cons_succ]
  simp -dsimp -implicitDefEqProofs (disch := omega) only [↓gpre, ↓bldS, ↓bld, ↓reduceIte, ↓gmore, gpost, gall, keepT, den, del, upd, dels, refs, hasTy, sArgs, aRefs, rvs, nodupB, memB, app, pTm, Ty.bytes, kbytes, Ty.zeroD, Ty.size, Ty.cmp, Ty.depth, Go.SE.look, reduceCtorEq, Nat.reduceAdd, Nat.reduceSub, Nat.reduceMul, Nat.reduceEqDiff, Nat.reduceLT, Nat.reduceLeDiff, Nat.reduceMod, Nat.reduceDiv, Nat.reducePow, Nat.reduceBEq, Int.reduceToNat, Int.reduceLE, Int.reduceLT, Int.reduceEq, Int.reduceAdd, Int.reduceMul, Int.reduceSub, Int.reduceNeg, Int.reduceNe, Try.TS]
  refine HIf_dec (fun h => ?_) (fun h => absurd (show (0 : Int) < k by omega) h)
  simp -dsimp -implicitDefEqProofs (disch := omega) only [↓gpre, ↓bldS, ↓bld, ↓reduceIte, ↓gmore, gpost, gall, keepT, den, del, upd, dels, refs, hasTy, sArgs, aRefs, rvs, nodupB, memB, app, pTm, Ty.bytes, kbytes, Ty.zeroD, Ty.size, Ty.cmp, Ty.depth, Go.SE.look, reduceCtorEq, Nat.reduceAdd, Nat.reduceSub, Nat.reduceMul, Nat.reduceEqDiff, Nat.reduceLT, Nat.reduceLeDiff, Nat.reduceMod, Nat.reduceDiv, Nat.reducePow, Nat.reduceBEq, Int.reduceToNat, Int.reduceLE, Int.reduceLT, Int.reduceEq, Int.reduceAdd, Int.reduceMul, Int.reduceSub, Int.reduceNeg, Int.reduceNe, Try.TS]
  refine HIf_dec (fun h => ?_) (fun h => absurd (show (k : Int) ≤ b.length by omega) h)
  simp -dsimp -implicitDefEqProofs (disch := omega) only [↓gpre, ↓bldS, ↓bld, ↓reduceIte, ↓gmore, gpost, gall, keepT, den, del, upd, dels, refs, hasTy, sArgs, aRefs, rvs, nodupB, memB, app, pTm, Ty.bytes, kbytes, Ty.zeroD, Ty.size, Ty.cmp, Ty.depth, Go.SE.look, reduceCtorEq, Nat.reduceAdd, Nat.reduceSub, Nat.reduceMul, Nat.reduceEqDiff, Nat.reduceLT, Nat.reduceLeDiff, Nat.reduceMod, Nat.reduceDiv, Nat.reducePow, Nat.reduceBEq, Int.reduceToNat, Int.reduceLE, Int.reduceLT, Int.reduceEq, Int.reduceAdd, Int.reduceMul, Int.reduceSub, Int.reduceNeg, Int.reduceNe, Try.TS]
  refine HIf_dec (fun h => ?_) (fun h => absurd (show (n : Int) ≤ most by omega) h)
  simp -dsimp -implicitDefEqProofs (disch := omega) only [↓gpre, ↓bldS, ↓bld, ↓reduceIte, ↓gmore, gpost, gall, keepT, den, del, upd, dels, refs, hasTy, sArgs, aRefs, rvs, nodupB, memB, app, pTm, Ty.bytes, kbytes, Ty.zeroD, Ty.size, Ty.cmp, Ty.depth, Go.SE.look, reduceCtorEq, Nat.reduceAdd, Nat.reduceSub, Nat.reduceMul, Nat.reduceEqDiff, Nat.reduceLT, Nat.reduceLeDiff, Nat.reduceMod, Nat.reduceDiv, Nat.reducePow, Nat.reduceBEq, Int.reduceToNat, Int.reduceLE, Int.reduceLT, Int.reduceEq, Int.reduceAdd, Int.reduceMul, Int.reduceSub, Int.reduceNeg, Int.reduceNe, Try.TS]
  repeat (refine And.intro (by omega) ?_)
  refine SCall.mono (appendSize' [] n (by simp) (by omega)) ?_
  rintro rs rfl
  rw [List.nil_append, ha]
  simp -dsimp -implicitDefEqProofs (disch := omega) only [↓gpre, ↓bldS, ↓bld, ↓reduceIte, ↓gmore, gpost, gall, keepT, den, del, upd, dels, refs, hasTy, sArgs, aRefs, rvs, nodupB, memB, app, pTm, Ty.bytes, kbytes, Ty.zeroD, Ty.size, Ty.cmp, Ty.depth, Go.SE.look, reduceCtorEq, Nat.reduceAdd, Nat.reduceSub, Nat.reduceMul, Nat.reduceEqDiff, Nat.reduceLT, Nat.reduceLeDiff, Nat.reduceMod, Nat.reduceDiv, Nat.reducePow, Nat.reduceBEq, Int.reduceToNat, Int.reduceLE, Int.reduceLT, Int.reduceEq, Int.reduceAdd, Int.reduceMul, Int.reduceSub, Int.reduceNeg, Int.reduceNe, Try.TS, Nat.sub_zero]
end Go.Proofs
