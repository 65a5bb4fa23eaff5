/- Merged: SgK SgL Laid Law0. -/
import Derived.Test.YtmafojaagmneoaaDoorRows
import Derived.Lib.LaidTab
import Derived.Test.YtmafojaagmneoaaDoorMSg4
set_option linter.unusedVariables false
set_option linter.unusedSimpArgs false
set_option linter.constructorNameAsVariable false
/- Signatures: tweaks. -/
namespace Go.Proofs
open Go.SE

/-- A tweaked key, and the error. -/
def twP (p : Nat) (t : List D) : Nat := p * (4 ^ (fb t % 57896044618658097711785492504343953926634992332820282019728792003956564801911) % 115792089237316195423570985008687907853269984665640564039457584007913129603823) % 115792089237316195423570985008687907853269984665640564039457584007913129603823
def twE (q p : Nat) (t : List D) : Int := if valB q p = true then (if twP p t = 1 then 5 else 0) else 60
def twN (q p : Nat) (t : List D) : Nat := if valB q p = true then (if twP p t = 1 then 0 else twP p t) else 0
def tsV (x : Nat) (t : List D) : Nat := (x + fb t % 57896044618658097711785492504343953926634992332820282019728792003956564801911) % 57896044618658097711785492504343953926634992332820282019728792003956564801911
def tsE (x : Nat) (t : List D) : Int := if secB x = true then (if tsV x t = 0 then 5 else 0) else 60
def tsN (x : Nat) (t : List D) : Nat := if secB x = true then tsV x t else 0
theorem twP_lt (p : Nat) (t : List D) : twP p t < 115792089237316195423570985008687907853269984665640564039457584007913129603823 := Nat.mod_lt _ (by omega)
theorem tsV_lt (x : Nat) (t : List D) : tsV x t < 57896044618658097711785492504343953926634992332820282019728792003956564801911 := Nat.mod_lt _ (by omega)
theorem twN_lt (q p : Nat) (t : List D) : twN q p t < 115792089237316195423570985008687907853269984665640564039457584007913129639936 := by
  have := twP_lt p t
  unfold twN
  generalize twP p t = y at *
  split
  · split <;> omega
  · omega
theorem tsN_lt (x : Nat) (t : List D) : tsN x t < 115792089237316195423570985008687907853269984665640564039457584007913129639936 := by
  have := tsV_lt x t
  unfold tsN
  generalize tsV x t = y at *
  split <;> omega

set_option maxHeartbeats 4000000 in
theorem stweak (p q : Nat) (t : List D) (hp : p < 115792089237316195423570985008687907853269984665640564039457584007913129639936) (ht : BY t) (htl : t.length = 32) (hq : q = 57896044618658097711785492504343953926634992332820282019728792003956564801911) : SCall Tryd.prog 25 [(.arr 4 (.int .u64), u256 p), (.arr 32 (.int .u8), .l t)]
    (fun rs => rs = [.d (.arr 4 (.int .u64)) (u256 (twN q p t)), .d (.int .i64) (.n (twE q p t))]) := by
  have c1 := svalid p q hp hq
  have c2 := gscalar t ht htl
  have l2 : fb t % 57896044618658097711785492504343953926634992332820282019728792003956564801911 < 115792089237316195423570985008687907853269984665640564039457584007913129639936 := Nat.lt_trans (Nat.mod_lt _ (by omega)) (by omega)
  have c3 := gpower (fb t % 57896044618658097711785492504343953926634992332820282019728792003956564801911) l2
  have l3 : 4 ^ (fb t % 57896044618658097711785492504343953926634992332820282019728792003956564801911) % 115792089237316195423570985008687907853269984665640564039457584007913129603823 < 115792089237316195423570985008687907853269984665640564039457584007913129639936 := Nat.lt_trans (p4_lt _) (by omega)
  have c4 := gmul p (4 ^ (fb t % 57896044618658097711785492504343953926634992332820282019728792003956564801911) % 115792089237316195423570985008687907853269984665640564039457584007913129603823) hp l3
  have l4 := twP_lt p t
  rw [show p * (4 ^ (fb t % 57896044618658097711785492504343953926634992332820282019728792003956564801911) % 115792089237316195423570985008687907853269984665640564039457584007913129603823) % 115792089237316195423570985008687907853269984665640564039457584007913129603823 = twP p t from rfl] at c4
  have hf : SCall Tryd.prog 46 [(.int .u64, .n 1)] (fun rs => rs = [.d (.arr 4 (.int .u64)) (u256 1)]) := fromUint 1 (by omega)
  unfold twN twE
  generalize twP p t = y at *
  generalize 4 ^ (fb t % 57896044618658097711785492504343953926634992332820282019728792003956564801911) % 115792089237316195423570985008687907853269984665640564039457584007913129603823 = u at *
  generalize fb t % 57896044618658097711785492504343953926634992332820282019728792003956564801911 = s at *
  have hy : y < 115792089237316195423570985008687907853269984665640564039457584007913129639936 := by omega
  refine scall_intro (n := 21) (rl := [.cell 4 45, .tmp 5]) (us := [45, 34]) Tryd.hT Tryd.func25 rfl rfl rfl rfl rfl (Nat.le_of_ble_eq_true rfl) ?_
  intro w0 hL0
  generalize valB q p = bv at *
  rcases bv with _ | _
  · repeat' (first
           | (with_reducible refine HCall_mono (c1) ?_; rintro rs rfl)
           | (with_reducible refine HCallF_mono (c1) (by first | rfl | simp [flatR, RV.flat, RV.isD, Ty.flat]) ?_)
           | (with_reducible refine HCallP_mono (c1) ?_; rintro _ _ _ ⟨rfl, rfl, rfl⟩)
           | (refine sdraw (id := 3) Tryd.hT (by kernel_rfl) [6] [2, 3, 4] [0, 1, 2, 3, 4, 5, 6] (by kernel_rfl) (by kernel_rfl) (by kernel_rfl) ?_; simp only [gK, ↓reduceIte, Nat.reduceEqDiff])
           | (refine sdraw (id := 4) Tryd.hT (by kernel_rfl) [] [] [0, 1, 2] (by kernel_rfl) (by kernel_rfl) (by kernel_rfl) ?_; simp only [gK, ↓reduceIte, Nat.reduceEqDiff])
           | with_reducible exact True.intro
           | (refine And.intro (by omega) ?_)
           | (simp -dsimp -implicitDefEqProofs (disch := omega) only [↓reduceIte, ↓gA, gB, refs, den, hasTy, Ty.cmp, Ty.depth, reduceCtorEq, Nat.reduceAdd, Nat.reduceSub, Nat.reduceMul, Nat.reduceEqDiff, Nat.reduceLT, Nat.reduceLeDiff, Nat.reduceMod, Nat.reduceDiv, Nat.reducePow, Nat.reduceBEq, Int.reduceToNat, Int.reduceLE, Int.reduceLT, Int.reduceEq, Int.reduceAdd, Int.reduceMul, Int.reduceSub, Int.reduceNeg, Int.reduceNe, Tryd.TS, Tryd.EV, rep4, u256_zero])
           | decide)
  · repeat' (first
           | (with_reducible refine HCall_mono (c1) ?_; rintro rs rfl)
           | (with_reducible refine HCallF_mono (c1) (by first | rfl | simp [flatR, RV.flat, RV.isD, Ty.flat]) ?_)
           | (with_reducible refine HCallP_mono (c1) ?_; rintro _ _ _ ⟨rfl, rfl, rfl⟩)
           | (with_reducible refine HCall_mono (c2) ?_; rintro rs rfl)
           | (with_reducible refine HCallF_mono (c2) (by first | rfl | simp [flatR, RV.flat, RV.isD, Ty.flat]) ?_)
           | (with_reducible refine HCallP_mono (c2) ?_; rintro _ _ _ ⟨rfl, rfl, rfl⟩)
           | (with_reducible refine HCall_mono (c3) ?_; rintro rs rfl)
           | (with_reducible refine HCallF_mono (c3) (by first | rfl | simp [flatR, RV.flat, RV.isD, Ty.flat]) ?_)
           | (with_reducible refine HCallP_mono (c3) ?_; rintro _ _ _ ⟨rfl, rfl, rfl⟩)
           | (with_reducible refine HCall_mono (c4) ?_; rintro rs rfl)
           | (with_reducible refine HCallF_mono (c4) (by first | rfl | simp [flatR, RV.flat, RV.isD, Ty.flat]) ?_)
           | (with_reducible refine HCallP_mono (c4) ?_; rintro _ _ _ ⟨rfl, rfl, rfl⟩)
           | (with_reducible refine HCall_mono (hf) ?_; rintro rs rfl)
           | (with_reducible refine HCallF_mono (hf) (by first | rfl | simp [flatR, RV.flat, RV.isD, Ty.flat]) ?_)
           | (with_reducible refine HCallP_mono (hf) ?_; rintro _ _ _ ⟨rfl, rfl, rfl⟩)
           | (refine sdraw (id := 3) Tryd.hT (by kernel_rfl) [6] [2, 3, 4] [0, 1, 2, 3, 4, 5, 6] (by kernel_rfl) (by kernel_rfl) (by kernel_rfl) ?_; simp only [gK, ↓reduceIte, Nat.reduceEqDiff])
           | (refine sdraw (id := 4) Tryd.hT (by kernel_rfl) [] [] [0, 1, 2] (by kernel_rfl) (by kernel_rfl) (by kernel_rfl) ?_; simp only [gK, ↓reduceIte, Nat.reduceEqDiff])
           | with_reducible exact True.intro
           | (refine And.intro (by omega) ?_)
           | (simp -dsimp -implicitDefEqProofs (disch := omega) only [↓reduceIte, ↓gA, gB, refs, den, hasTy, Ty.cmp, Ty.depth, reduceCtorEq, Nat.reduceAdd, Nat.reduceSub, Nat.reduceMul, Nat.reduceEqDiff, Nat.reduceLT, Nat.reduceLeDiff, Nat.reduceMod, Nat.reduceDiv, Nat.reducePow, Nat.reduceBEq, Int.reduceToNat, Int.reduceLE, Int.reduceLT, Int.reduceEq, Int.reduceAdd, Int.reduceMul, Int.reduceSub, Int.reduceNeg, Int.reduceNe, Tryd.TS, Tryd.EV, rep4, u256_zero, u256_inj hy (show 1 < 115792089237316195423570985008687907853269984665640564039457584007913129639936 by omega)])
           | decide)
    refine HIf_dec (a := ()) (b := ()) (fun h => ?_) (fun h => ?_)
    · repeat' (first
           | (refine sdraw (id := 3) Tryd.hT (by kernel_rfl) [6] [2, 3, 4] [0, 1, 2, 3, 4, 5, 6] (by kernel_rfl) (by kernel_rfl) (by kernel_rfl) ?_; simp only [gK, ↓reduceIte, Nat.reduceEqDiff])
           | (refine sdraw (id := 4) Tryd.hT (by kernel_rfl) [] [] [0, 1, 2] (by kernel_rfl) (by kernel_rfl) (by kernel_rfl) ?_; simp only [gK, ↓reduceIte, Nat.reduceEqDiff])
           | with_reducible exact True.intro
           | (refine And.intro (by omega) ?_)
           | (simp -dsimp -implicitDefEqProofs (disch := omega) only [↓reduceIte, ↓gA, gB, refs, den, hasTy, Ty.cmp, Ty.depth, reduceCtorEq, Nat.reduceAdd, Nat.reduceSub, Nat.reduceMul, Nat.reduceEqDiff, Nat.reduceLT, Nat.reduceLeDiff, Nat.reduceMod, Nat.reduceDiv, Nat.reducePow, Nat.reduceBEq, Int.reduceToNat, Int.reduceLE, Int.reduceLT, Int.reduceEq, Int.reduceAdd, Int.reduceMul, Int.reduceSub, Int.reduceNeg, Int.reduceNe, Tryd.TS, Tryd.EV, rep4, u256_zero, h])
           | decide)
    · repeat' (first
           | (refine sdraw (id := 3) Tryd.hT (by kernel_rfl) [6] [2, 3, 4] [0, 1, 2, 3, 4, 5, 6] (by kernel_rfl) (by kernel_rfl) (by kernel_rfl) ?_; simp only [gK, ↓reduceIte, Nat.reduceEqDiff])
           | (refine sdraw (id := 4) Tryd.hT (by kernel_rfl) [] [] [0, 1, 2] (by kernel_rfl) (by kernel_rfl) (by kernel_rfl) ?_; simp only [gK, ↓reduceIte, Nat.reduceEqDiff])
           | with_reducible exact True.intro
           | (refine And.intro (by omega) ?_)
           | (simp -dsimp -implicitDefEqProofs (disch := omega) only [↓reduceIte, ↓gA, gB, refs, den, hasTy, Ty.cmp, Ty.depth, reduceCtorEq, Nat.reduceAdd, Nat.reduceSub, Nat.reduceMul, Nat.reduceEqDiff, Nat.reduceLT, Nat.reduceLeDiff, Nat.reduceMod, Nat.reduceDiv, Nat.reducePow, Nat.reduceBEq, Int.reduceToNat, Int.reduceLE, Int.reduceLT, Int.reduceEq, Int.reduceAdd, Int.reduceMul, Int.reduceSub, Int.reduceNeg, Int.reduceNe, Tryd.TS, Tryd.EV, rep4, u256_zero, h])
           | decide)

set_option maxHeartbeats 4000000 in
theorem stweakSecret (x : Nat) (t : List D) (hx : x < 115792089237316195423570985008687907853269984665640564039457584007913129639936) (ht : BY t) (htl : t.length = 32) : SCall Tryd.prog 27 [(.arr 4 (.int .u64), u256 x), (.arr 32 (.int .u8), .l t)]
    (fun rs => rs = [.d (.arr 4 (.int .u64)) (u256 (tsN x t)), .d (.int .i64) (.n (tsE x t))]) := by
  have c1 := ssecret x hx
  have c2 := gscalar t ht htl
  have l2 : fb t % 57896044618658097711785492504343953926634992332820282019728792003956564801911 < 115792089237316195423570985008687907853269984665640564039457584007913129639936 := Nat.lt_trans (Nat.mod_lt _ (by omega)) (by omega)
  have c3 := gaddScalar x (fb t % 57896044618658097711785492504343953926634992332820282019728792003956564801911) hx l2
  have l4 := tsV_lt x t
  rw [show (x + fb t % 57896044618658097711785492504343953926634992332820282019728792003956564801911) % 57896044618658097711785492504343953926634992332820282019728792003956564801911 = tsV x t from rfl] at c3
  unfold tsN tsE
  generalize tsV x t = y at *
  generalize fb t % 57896044618658097711785492504343953926634992332820282019728792003956564801911 = s at *
  have hy : y < 115792089237316195423570985008687907853269984665640564039457584007913129639936 := by omega
  refine scall_intro (n := 20) (rl := [.cell 4 45, .tmp 5]) (us := [45, 34]) Tryd.hT Tryd.func27 rfl rfl rfl rfl rfl (Nat.le_of_ble_eq_true rfl) ?_
  intro w0 hL0
  generalize secB x = bv at *
  rcases bv with _ | _
  · repeat' (first
           | (with_reducible refine HCall_mono (c1) ?_; rintro rs rfl)
           | (with_reducible refine HCallF_mono (c1) (by first | rfl | simp [flatR, RV.flat, RV.isD, Ty.flat]) ?_)
           | (with_reducible refine HCallP_mono (c1) ?_; rintro _ _ _ ⟨rfl, rfl, rfl⟩)
           | (refine sdraw (id := 3) Tryd.hT (by kernel_rfl) [5] [2, 3] [0, 1, 2, 3, 4, 5] (by kernel_rfl) (by kernel_rfl) (by kernel_rfl) ?_; simp only [gK, ↓reduceIte, Nat.reduceEqDiff])
           | with_reducible exact True.intro
           | (refine And.intro (by omega) ?_)
           | (simp -dsimp -implicitDefEqProofs (disch := omega) only [↓reduceIte, ↓gA, gB, refs, den, hasTy, Ty.cmp, Ty.depth, reduceCtorEq, Nat.reduceAdd, Nat.reduceSub, Nat.reduceMul, Nat.reduceEqDiff, Nat.reduceLT, Nat.reduceLeDiff, Nat.reduceMod, Nat.reduceDiv, Nat.reducePow, Nat.reduceBEq, Int.reduceToNat, Int.reduceLE, Int.reduceLT, Int.reduceEq, Int.reduceAdd, Int.reduceMul, Int.reduceSub, Int.reduceNeg, Int.reduceNe, Tryd.TS, Tryd.EV, rep4, u256_zero])
           | decide)
  · repeat' (first
           | (with_reducible refine HCall_mono (c1) ?_; rintro rs rfl)
           | (with_reducible refine HCallF_mono (c1) (by first | rfl | simp [flatR, RV.flat, RV.isD, Ty.flat]) ?_)
           | (with_reducible refine HCallP_mono (c1) ?_; rintro _ _ _ ⟨rfl, rfl, rfl⟩)
           | (with_reducible refine HCall_mono (c2) ?_; rintro rs rfl)
           | (with_reducible refine HCallF_mono (c2) (by first | rfl | simp [flatR, RV.flat, RV.isD, Ty.flat]) ?_)
           | (with_reducible refine HCallP_mono (c2) ?_; rintro _ _ _ ⟨rfl, rfl, rfl⟩)
           | (with_reducible refine HCall_mono (c3) ?_; rintro rs rfl)
           | (with_reducible refine HCallF_mono (c3) (by first | rfl | simp [flatR, RV.flat, RV.isD, Ty.flat]) ?_)
           | (with_reducible refine HCallP_mono (c3) ?_; rintro _ _ _ ⟨rfl, rfl, rfl⟩)
           | (refine sdraw (id := 3) Tryd.hT (by kernel_rfl) [5] [2, 3] [0, 1, 2, 3, 4, 5] (by kernel_rfl) (by kernel_rfl) (by kernel_rfl) ?_; simp only [gK, ↓reduceIte, Nat.reduceEqDiff])
           | with_reducible exact True.intro
           | (refine And.intro (by omega) ?_)
           | (simp -dsimp -implicitDefEqProofs (disch := omega) only [↓reduceIte, ↓gA, gB, refs, den, hasTy, Ty.cmp, Ty.depth, reduceCtorEq, Nat.reduceAdd, Nat.reduceSub, Nat.reduceMul, Nat.reduceEqDiff, Nat.reduceLT, Nat.reduceLeDiff, Nat.reduceMod, Nat.reduceDiv, Nat.reducePow, Nat.reduceBEq, Int.reduceToNat, Int.reduceLE, Int.reduceLT, Int.reduceEq, Int.reduceAdd, Int.reduceMul, Int.reduceSub, Int.reduceNeg, Int.reduceNe, Tryd.TS, Tryd.EV, rep4, u256_zero, u256_inj hy (show 0 < 115792089237316195423570985008687907853269984665640564039457584007913129639936 by omega)])
           | decide)
    refine HIf_dec (a := ()) (b := ()) (fun h => ?_) (fun h => ?_)
    · subst h
      repeat' (first
                | (refine sdraw (id := 3) Tryd.hT (by kernel_rfl) [5] [2, 3] [0, 1, 2, 3, 4, 5] (by kernel_rfl) (by kernel_rfl) (by kernel_rfl) ?_; simp only [gK, ↓reduceIte, Nat.reduceEqDiff])
                | with_reducible exact True.intro
                | (refine And.intro (by omega) ?_)
                | (simp -dsimp -implicitDefEqProofs (disch := omega) only [↓reduceIte, ↓gA, gB, refs, den, hasTy, Ty.cmp, Ty.depth, reduceCtorEq, Nat.reduceAdd, Nat.reduceSub, Nat.reduceMul, Nat.reduceEqDiff, Nat.reduceLT, Nat.reduceLeDiff, Nat.reduceMod, Nat.reduceDiv, Nat.reducePow, Nat.reduceBEq, Int.reduceToNat, Int.reduceLE, Int.reduceLT, Int.reduceEq, Int.reduceAdd, Int.reduceMul, Int.reduceSub, Int.reduceNeg, Int.reduceNe, Tryd.TS, Tryd.EV, rep4, u256_zero])
                | decide)
    · rw [if_neg h]
      repeat' (first
                | (refine sdraw (id := 3) Tryd.hT (by kernel_rfl) [5] [2, 3] [0, 1, 2, 3, 4, 5] (by kernel_rfl) (by kernel_rfl) (by kernel_rfl) ?_; simp only [gK, ↓reduceIte, Nat.reduceEqDiff])
                | with_reducible exact True.intro
                | (refine And.intro (by omega) ?_)
                | (simp -dsimp -implicitDefEqProofs (disch := omega) only [↓reduceIte, ↓gA, gB, refs, den, hasTy, Ty.cmp, Ty.depth, reduceCtorEq, Nat.reduceAdd, Nat.reduceSub, Nat.reduceMul, Nat.reduceEqDiff, Nat.reduceLT, Nat.reduceLeDiff, Nat.reduceMod, Nat.reduceDiv, Nat.reducePow, Nat.reduceBEq, Int.reduceToNat, Int.reduceLE, Int.reduceLT, Int.reduceEq, Int.reduceAdd, Int.reduceMul, Int.reduceSub, Int.reduceNeg, Int.reduceNe, Tryd.TS, Tryd.EV, rep4, u256_zero])
                | decide)

set_option maxHeartbeats 4000000 in
theorem ssecretRef (x : Nat) (hx : x < 115792089237316195423570985008687907853269984665640564039457584007913129639936) : SCall Tryd.prog 65 [(.arr 4 (.int .u64), u256 x)] (fun rs => rs = [.d .bool (.b (secB x))]) := by
  have hc := wcmpRef x 57896044618658097711785492504343953926634992332820282019728792003956564801911 hx (by omega)
  have hz := wzeroRef x hx
  refine scall_intro (n := 12) (rl := [.tmp 2]) (us := [4]) Tryd.hT Tryd.func65 rfl rfl rfl rfl rfl (Nat.le_of_ble_eq_true rfl) ?_
  intro w0 hL0
  repeat' (first
            | (with_reducible refine HCall_mono (hz) ?_; rintro rs rfl)
            | (with_reducible refine HCallF_mono (hz) (by first | rfl | simp [flatR, RV.flat, RV.isD, Ty.flat]) ?_)
            | (with_reducible refine HCallP_mono (hz) ?_; rintro _ _ _ ⟨rfl, rfl, rfl⟩)
            | (refine sdraw (id := 1) Tryd.hT (by kernel_rfl) [] [] [0, 1, 2, 3, 4, 5, 6, 7, 8, 9] (by kernel_rfl) (by kernel_rfl) (by kernel_rfl) ?_; simp only [gK, ↓reduceIte, Nat.reduceEqDiff])
            | with_reducible exact True.intro
            | (refine And.intro (by omega) ?_)
            | (simp -dsimp -implicitDefEqProofs (disch := omega) only [↓reduceIte, ↓gA, gB, refs, den, hasTy, Ty.cmp, Ty.depth, reduceCtorEq, Nat.reduceAdd, Nat.reduceSub, Nat.reduceMul, Nat.reduceEqDiff, Nat.reduceLT, Nat.reduceLeDiff, Nat.reduceMod, Nat.reduceDiv, Nat.reducePow, Nat.reduceBEq, Int.reduceToNat, Int.reduceLE, Int.reduceLT, Int.reduceEq, Int.reduceAdd, Int.reduceMul, Int.reduceSub, Int.reduceNeg, Int.reduceNe, Tryd.TS, Tryd.EV, rep4])
            | decide)
  refine HIf_ndec (a := ()) (b := ()) (fun h => ?_) (fun h => ?_)
  · repeat' (first
           | (with_reducible refine HCall_mono (gorderRef) ?_; rintro rs rfl)
           | (with_reducible refine HCallF_mono (gorderRef) (by first | rfl | simp [flatR, RV.flat, RV.isD, Ty.flat]) ?_)
           | (with_reducible refine HCallP_mono (gorderRef) ?_; rintro _ _ _ ⟨rfl, rfl, rfl⟩)
           | (with_reducible refine HCall_mono (hc) ?_; rintro rs rfl)
           | (with_reducible refine HCallF_mono (hc) (by first | rfl | simp [flatR, RV.flat, RV.isD, Ty.flat]) ?_)
           | (with_reducible refine HCallP_mono (hc) ?_; rintro _ _ _ ⟨rfl, rfl, rfl⟩)
           | (refine sdraw (id := 1) Tryd.hT (by kernel_rfl) [] [] [0, 1, 2, 3, 4, 5, 6, 7, 8, 9] (by kernel_rfl) (by kernel_rfl) (by kernel_rfl) ?_; simp only [gK, ↓reduceIte, Nat.reduceEqDiff])
           | with_reducible exact True.intro
           | (refine And.intro (by omega) ?_)
           | (simp -dsimp -implicitDefEqProofs (disch := omega) only [↓reduceIte, ↓gA, gB, refs, den, hasTy, Ty.cmp, Ty.depth, reduceCtorEq, Nat.reduceAdd, Nat.reduceSub, Nat.reduceMul, Nat.reduceEqDiff, Nat.reduceLT, Nat.reduceLeDiff, Nat.reduceMod, Nat.reduceDiv, Nat.reducePow, Nat.reduceBEq, Int.reduceToNat, Int.reduceLE, Int.reduceLT, Int.reduceEq, Int.reduceAdd, Int.reduceMul, Int.reduceSub, Int.reduceNeg, Int.reduceNe, Tryd.TS, Tryd.EV, rep4])
           | decide)
    rw [cmp_lt, secB, decide_eq_true h, Bool.true_and]
  · repeat' (first
           | (refine sdraw (id := 1) Tryd.hT (by kernel_rfl) [] [] [0, 1, 2, 3, 4, 5, 6, 7, 8, 9] (by kernel_rfl) (by kernel_rfl) (by kernel_rfl) ?_; simp only [gK, ↓reduceIte, Nat.reduceEqDiff])
           | with_reducible exact True.intro
           | (refine And.intro (by omega) ?_)
           | (simp -dsimp -implicitDefEqProofs (disch := omega) only [↓reduceIte, ↓gA, gB, refs, den, hasTy, Ty.cmp, Ty.depth, reduceCtorEq, Nat.reduceAdd, Nat.reduceSub, Nat.reduceMul, Nat.reduceEqDiff, Nat.reduceLT, Nat.reduceLeDiff, Nat.reduceMod, Nat.reduceDiv, Nat.reducePow, Nat.reduceBEq, Int.reduceToNat, Int.reduceLE, Int.reduceLT, Int.reduceEq, Int.reduceAdd, Int.reduceMul, Int.reduceSub, Int.reduceNeg, Int.reduceNe, Tryd.TS, Tryd.EV, rep4])
           | decide)
    rw [secB, decide_eq_false (show ¬ x ≠ 0 by omega), Bool.false_and]

set_option maxHeartbeats 4000000 in
theorem svalidRef (x q : Nat) (hx : x < 115792089237316195423570985008687907853269984665640564039457584007913129639936) (hq : q = 57896044618658097711785492504343953926634992332820282019728792003956564801911) : SCall Tryd.prog 63 [(.arr 4 (.int .u64), u256 x)] (fun rs => rs = [.d .bool (.b (valB q x))]) := by
  have hf : SCall Tryd.prog 64 [(.int .u64, .n 1)] (fun rs => rs = [.d (.arr 4 (.int .u64)) (u256 1)]) := fromUintRef 1 (by omega)
  have hm := gmemberRef x q hx hq
  unfold valB
  refine scall_intro (n := 10) (rl := [.tmp 2]) (us := [4]) Tryd.hT Tryd.func63 rfl rfl rfl rfl rfl (Nat.le_of_ble_eq_true rfl) ?_
  intro w0 hL0
  repeat' (first
            | (with_reducible refine HCall_mono (hf) ?_; rintro rs rfl)
            | (with_reducible refine HCallF_mono (hf) (by first | rfl | simp [flatR, RV.flat, RV.isD, Ty.flat]) ?_)
            | (with_reducible refine HCallP_mono (hf) ?_; rintro _ _ _ ⟨rfl, rfl, rfl⟩)
            | (refine sdraw (id := 1) Tryd.hT (by kernel_rfl) [] [] [0, 1, 2, 3, 4, 5, 6, 7] (by kernel_rfl) (by kernel_rfl) (by kernel_rfl) ?_; simp only [gK, ↓reduceIte, Nat.reduceEqDiff])
            | with_reducible exact True.intro
            | (refine And.intro (by omega) ?_)
            | (simp -dsimp -implicitDefEqProofs (disch := omega) only [↓reduceIte, ↓gA, gB, refs, den, hasTy, Ty.cmp, Ty.depth, reduceCtorEq, Nat.reduceAdd, Nat.reduceSub, Nat.reduceMul, Nat.reduceEqDiff, Nat.reduceLT, Nat.reduceLeDiff, Nat.reduceMod, Nat.reduceDiv, Nat.reducePow, Nat.reduceBEq, Int.reduceToNat, Int.reduceLE, Int.reduceLT, Int.reduceEq, Int.reduceAdd, Int.reduceMul, Int.reduceSub, Int.reduceNeg, Int.reduceNe, Tryd.TS, Tryd.EV, rep4, u256_inj hx (show 1 < 115792089237316195423570985008687907853269984665640564039457584007913129639936 by omega)])
            | decide)
  refine HIf_ndec (a := ()) (b := ()) (fun h => ?_) (fun h => ?_)
  · repeat' (first
           | (with_reducible refine HCall_mono (hm) ?_; rintro rs rfl)
           | (with_reducible refine HCallF_mono (hm) (by first | rfl | simp [flatR, RV.flat, RV.isD, Ty.flat]) ?_)
           | (with_reducible refine HCallP_mono (hm) ?_; rintro _ _ _ ⟨rfl, rfl, rfl⟩)
           | (refine sdraw (id := 1) Tryd.hT (by kernel_rfl) [] [] [0, 1, 2, 3, 4, 5, 6, 7] (by kernel_rfl) (by kernel_rfl) (by kernel_rfl) ?_; simp only [gK, ↓reduceIte, Nat.reduceEqDiff])
           | with_reducible exact True.intro
           | (refine And.intro (by omega) ?_)
           | (simp -dsimp -implicitDefEqProofs (disch := omega) only [↓reduceIte, ↓gA, gB, refs, den, hasTy, Ty.cmp, Ty.depth, reduceCtorEq, Nat.reduceAdd, Nat.reduceSub, Nat.reduceMul, Nat.reduceEqDiff, Nat.reduceLT, Nat.reduceLeDiff, Nat.reduceMod, Nat.reduceDiv, Nat.reducePow, Nat.reduceBEq, Int.reduceToNat, Int.reduceLE, Int.reduceLT, Int.reduceEq, Int.reduceAdd, Int.reduceMul, Int.reduceSub, Int.reduceNeg, Int.reduceNe, Tryd.TS, Tryd.EV, rep4])
           | decide)
    simp [h]
  · repeat' (first
           | (refine sdraw (id := 1) Tryd.hT (by kernel_rfl) [] [] [0, 1, 2, 3, 4, 5, 6, 7] (by kernel_rfl) (by kernel_rfl) (by kernel_rfl) ?_; simp only [gK, ↓reduceIte, Nat.reduceEqDiff])
           | with_reducible exact True.intro
           | (refine And.intro (by omega) ?_)
           | (simp -dsimp -implicitDefEqProofs (disch := omega) only [↓reduceIte, ↓gA, gB, refs, den, hasTy, Ty.cmp, Ty.depth, reduceCtorEq, Nat.reduceAdd, Nat.reduceSub, Nat.reduceMul, Nat.reduceEqDiff, Nat.reduceLT, Nat.reduceLeDiff, Nat.reduceMod, Nat.reduceDiv, Nat.reducePow, Nat.reduceBEq, Int.reduceToNat, Int.reduceLE, Int.reduceLT, Int.reduceEq, Int.reduceAdd, Int.reduceMul, Int.reduceSub, Int.reduceNeg, Int.reduceNe, Tryd.TS, Tryd.EV, rep4])
           | decide)
    simp [h]

set_option maxHeartbeats 4000000 in
theorem spublicRef (x : Nat) (hx : x < 115792089237316195423570985008687907853269984665640564039457584007913129639936) : SCall Tryd.prog 29 [(.arr 4 (.int .u64), u256 x)] (fun rs => rs = [.d (.arr 4 (.int .u64)) (u256 (pubN x)), .d (.int .i64) (.n (pubE x))]) := by
  have c1 := ssecretRef x hx
  have c2 := gpowerRef x hx
  unfold pubN pubE
  generalize 4 ^ x % 115792089237316195423570985008687907853269984665640564039457584007913129603823 = y at *
  refine scall_intro (n := 10) (rl := [.cell 2 45, .tmp 3]) (us := [45, 34]) Tryd.hT Tryd.func29 rfl rfl rfl rfl rfl (Nat.le_of_ble_eq_true rfl) ?_
  intro w0 hL0
  generalize secB x = bv at *
  rcases bv with _ | _
  · repeat' (first
           | (with_reducible refine HCall_mono (c1) ?_; rintro rs rfl)
           | (with_reducible refine HCallF_mono (c1) (by first | rfl | simp [flatR, RV.flat, RV.isD, Ty.flat]) ?_)
           | (with_reducible refine HCallP_mono (c1) ?_; rintro _ _ _ ⟨rfl, rfl, rfl⟩)
           | with_reducible exact True.intro
           | (refine And.intro (by omega) ?_)
           | (simp -dsimp -implicitDefEqProofs (disch := omega) only [↓reduceIte, ↓gA, gB, refs, den, hasTy, Ty.cmp, Ty.depth, reduceCtorEq, Nat.reduceAdd, Nat.reduceSub, Nat.reduceMul, Nat.reduceEqDiff, Nat.reduceLT, Nat.reduceLeDiff, Nat.reduceMod, Nat.reduceDiv, Nat.reducePow, Nat.reduceBEq, Int.reduceToNat, Int.reduceLE, Int.reduceLT, Int.reduceEq, Int.reduceAdd, Int.reduceMul, Int.reduceSub, Int.reduceNeg, Int.reduceNe, Tryd.TS, Tryd.EV, rep4, u256_zero])
           | decide)
  · repeat' (first
           | (with_reducible refine HCall_mono (c1) ?_; rintro rs rfl)
           | (with_reducible refine HCallF_mono (c1) (by first | rfl | simp [flatR, RV.flat, RV.isD, Ty.flat]) ?_)
           | (with_reducible refine HCallP_mono (c1) ?_; rintro _ _ _ ⟨rfl, rfl, rfl⟩)
           | (with_reducible refine HCall_mono (c2) ?_; rintro rs rfl)
           | (with_reducible refine HCallF_mono (c2) (by first | rfl | simp [flatR, RV.flat, RV.isD, Ty.flat]) ?_)
           | (with_reducible refine HCallP_mono (c2) ?_; rintro _ _ _ ⟨rfl, rfl, rfl⟩)
           | with_reducible exact True.intro
           | (refine And.intro (by omega) ?_)
           | (simp -dsimp -implicitDefEqProofs (disch := omega) only [↓reduceIte, ↓gA, gB, refs, den, hasTy, Ty.cmp, Ty.depth, reduceCtorEq, Nat.reduceAdd, Nat.reduceSub, Nat.reduceMul, Nat.reduceEqDiff, Nat.reduceLT, Nat.reduceLeDiff, Nat.reduceMod, Nat.reduceDiv, Nat.reducePow, Nat.reduceBEq, Int.reduceToNat, Int.reduceLE, Int.reduceLT, Int.reduceEq, Int.reduceAdd, Int.reduceMul, Int.reduceSub, Int.reduceNeg, Int.reduceNe, Tryd.TS, Tryd.EV, rep4])
           | decide)

set_option maxHeartbeats 4000000 in
theorem stweakRef (p q : Nat) (t : List D) (hp : p < 115792089237316195423570985008687907853269984665640564039457584007913129639936) (ht : BY t) (htl : t.length = 32) (hq : q = 57896044618658097711785492504343953926634992332820282019728792003956564801911) : SCall Tryd.prog 26 [(.arr 4 (.int .u64), u256 p), (.arr 32 (.int .u8), .l t)]
    (fun rs => rs = [.d (.arr 4 (.int .u64)) (u256 (twN q p t)), .d (.int .i64) (.n (twE q p t))]) := by
  have c1 := svalidRef p q hp hq
  have c2 := gscalarRef t ht htl
  have l2 : fb t % 57896044618658097711785492504343953926634992332820282019728792003956564801911 < 115792089237316195423570985008687907853269984665640564039457584007913129639936 := Nat.lt_trans (Nat.mod_lt _ (by omega)) (by omega)
  have c3 := gpowerRef (fb t % 57896044618658097711785492504343953926634992332820282019728792003956564801911) l2
  have l3 : 4 ^ (fb t % 57896044618658097711785492504343953926634992332820282019728792003956564801911) % 115792089237316195423570985008687907853269984665640564039457584007913129603823 < 115792089237316195423570985008687907853269984665640564039457584007913129639936 := Nat.lt_trans (p4_lt _) (by omega)
  have c4 := gmulRef p (4 ^ (fb t % 57896044618658097711785492504343953926634992332820282019728792003956564801911) % 115792089237316195423570985008687907853269984665640564039457584007913129603823) hp l3
  have l4 := twP_lt p t
  rw [show p * (4 ^ (fb t % 57896044618658097711785492504343953926634992332820282019728792003956564801911) % 115792089237316195423570985008687907853269984665640564039457584007913129603823) % 115792089237316195423570985008687907853269984665640564039457584007913129603823 = twP p t from rfl] at c4
  have hf : SCall Tryd.prog 64 [(.int .u64, .n 1)] (fun rs => rs = [.d (.arr 4 (.int .u64)) (u256 1)]) := fromUintRef 1 (by omega)
  unfold twN twE
  generalize twP p t = y at *
  generalize 4 ^ (fb t % 57896044618658097711785492504343953926634992332820282019728792003956564801911) % 115792089237316195423570985008687907853269984665640564039457584007913129603823 = u at *
  generalize fb t % 57896044618658097711785492504343953926634992332820282019728792003956564801911 = s at *
  have hy : y < 115792089237316195423570985008687907853269984665640564039457584007913129639936 := by omega
  refine scall_intro (n := 21) (rl := [.cell 4 45, .tmp 5]) (us := [45, 34]) Tryd.hT Tryd.func26 rfl rfl rfl rfl rfl (Nat.le_of_ble_eq_true rfl) ?_
  intro w0 hL0
  generalize valB q p = bv at *
  rcases bv with _ | _
  · repeat' (first
           | (with_reducible refine HCall_mono (c1) ?_; rintro rs rfl)
           | (with_reducible refine HCallF_mono (c1) (by first | rfl | simp [flatR, RV.flat, RV.isD, Ty.flat]) ?_)
           | (with_reducible refine HCallP_mono (c1) ?_; rintro _ _ _ ⟨rfl, rfl, rfl⟩)
           | (refine sdraw (id := 3) Tryd.hT (by kernel_rfl) [6] [2, 3, 4] [0, 1, 2, 3, 4, 5, 6] (by kernel_rfl) (by kernel_rfl) (by kernel_rfl) ?_; simp only [gK, ↓reduceIte, Nat.reduceEqDiff])
           | (refine sdraw (id := 4) Tryd.hT (by kernel_rfl) [] [] [0, 1, 2] (by kernel_rfl) (by kernel_rfl) (by kernel_rfl) ?_; simp only [gK, ↓reduceIte, Nat.reduceEqDiff])
           | with_reducible exact True.intro
           | (refine And.intro (by omega) ?_)
           | (simp -dsimp -implicitDefEqProofs (disch := omega) only [↓reduceIte, ↓gA, gB, refs, den, hasTy, Ty.cmp, Ty.depth, reduceCtorEq, Nat.reduceAdd, Nat.reduceSub, Nat.reduceMul, Nat.reduceEqDiff, Nat.reduceLT, Nat.reduceLeDiff, Nat.reduceMod, Nat.reduceDiv, Nat.reducePow, Nat.reduceBEq, Int.reduceToNat, Int.reduceLE, Int.reduceLT, Int.reduceEq, Int.reduceAdd, Int.reduceMul, Int.reduceSub, Int.reduceNeg, Int.reduceNe, Tryd.TS, Tryd.EV, rep4, u256_zero])
           | decide)
  · repeat' (first
           | (with_reducible refine HCall_mono (c1) ?_; rintro rs rfl)
           | (with_reducible refine HCallF_mono (c1) (by first | rfl | simp [flatR, RV.flat, RV.isD, Ty.flat]) ?_)
           | (with_reducible refine HCallP_mono (c1) ?_; rintro _ _ _ ⟨rfl, rfl, rfl⟩)
           | (with_reducible refine HCall_mono (c2) ?_; rintro rs rfl)
           | (with_reducible refine HCallF_mono (c2) (by first | rfl | simp [flatR, RV.flat, RV.isD, Ty.flat]) ?_)
           | (with_reducible refine HCallP_mono (c2) ?_; rintro _ _ _ ⟨rfl, rfl, rfl⟩)
           | (with_reducible refine HCall_mono (c3) ?_; rintro rs rfl)
           | (with_reducible refine HCallF_mono (c3) (by first | rfl | simp [flatR, RV.flat, RV.isD, Ty.flat]) ?_)
           | (with_reducible refine HCallP_mono (c3) ?_; rintro _ _ _ ⟨rfl, rfl, rfl⟩)
           | (with_reducible refine HCall_mono (c4) ?_; rintro rs rfl)
           | (with_reducible refine HCallF_mono (c4) (by first | rfl | simp [flatR, RV.flat, RV.isD, Ty.flat]) ?_)
           | (with_reducible refine HCallP_mono (c4) ?_; rintro _ _ _ ⟨rfl, rfl, rfl⟩)
           | (with_reducible refine HCall_mono (hf) ?_; rintro rs rfl)
           | (with_reducible refine HCallF_mono (hf) (by first | rfl | simp [flatR, RV.flat, RV.isD, Ty.flat]) ?_)
           | (with_reducible refine HCallP_mono (hf) ?_; rintro _ _ _ ⟨rfl, rfl, rfl⟩)
           | (refine sdraw (id := 3) Tryd.hT (by kernel_rfl) [6] [2, 3, 4] [0, 1, 2, 3, 4, 5, 6] (by kernel_rfl) (by kernel_rfl) (by kernel_rfl) ?_; simp only [gK, ↓reduceIte, Nat.reduceEqDiff])
           | (refine sdraw (id := 4) Tryd.hT (by kernel_rfl) [] [] [0, 1, 2] (by kernel_rfl) (by kernel_rfl) (by kernel_rfl) ?_; simp only [gK, ↓reduceIte, Nat.reduceEqDiff])
           | with_reducible exact True.intro
           | (refine And.intro (by omega) ?_)
           | (simp -dsimp -implicitDefEqProofs (disch := omega) only [↓reduceIte, ↓gA, gB, refs, den, hasTy, Ty.cmp, Ty.depth, reduceCtorEq, Nat.reduceAdd, Nat.reduceSub, Nat.reduceMul, Nat.reduceEqDiff, Nat.reduceLT, Nat.reduceLeDiff, Nat.reduceMod, Nat.reduceDiv, Nat.reducePow, Nat.reduceBEq, Int.reduceToNat, Int.reduceLE, Int.reduceLT, Int.reduceEq, Int.reduceAdd, Int.reduceMul, Int.reduceSub, Int.reduceNeg, Int.reduceNe, Tryd.TS, Tryd.EV, rep4, u256_zero, u256_inj hy (show 1 < 115792089237316195423570985008687907853269984665640564039457584007913129639936 by omega)])
           | decide)
    refine HIf_dec (a := ()) (b := ()) (fun h => ?_) (fun h => ?_)
    · repeat' (first
           | (refine sdraw (id := 3) Tryd.hT (by kernel_rfl) [6] [2, 3, 4] [0, 1, 2, 3, 4, 5, 6] (by kernel_rfl) (by kernel_rfl) (by kernel_rfl) ?_; simp only [gK, ↓reduceIte, Nat.reduceEqDiff])
           | (refine sdraw (id := 4) Tryd.hT (by kernel_rfl) [] [] [0, 1, 2] (by kernel_rfl) (by kernel_rfl) (by kernel_rfl) ?_; simp only [gK, ↓reduceIte, Nat.reduceEqDiff])
           | with_reducible exact True.intro
           | (refine And.intro (by omega) ?_)
           | (simp -dsimp -implicitDefEqProofs (disch := omega) only [↓reduceIte, ↓gA, gB, refs, den, hasTy, Ty.cmp, Ty.depth, reduceCtorEq, Nat.reduceAdd, Nat.reduceSub, Nat.reduceMul, Nat.reduceEqDiff, Nat.reduceLT, Nat.reduceLeDiff, Nat.reduceMod, Nat.reduceDiv, Nat.reducePow, Nat.reduceBEq, Int.reduceToNat, Int.reduceLE, Int.reduceLT, Int.reduceEq, Int.reduceAdd, Int.reduceMul, Int.reduceSub, Int.reduceNeg, Int.reduceNe, Tryd.TS, Tryd.EV, rep4, u256_zero, h])
           | decide)
    · repeat' (first
           | (refine sdraw (id := 3) Tryd.hT (by kernel_rfl) [6] [2, 3, 4] [0, 1, 2, 3, 4, 5, 6] (by kernel_rfl) (by kernel_rfl) (by kernel_rfl) ?_; simp only [gK, ↓reduceIte, Nat.reduceEqDiff])
           | (refine sdraw (id := 4) Tryd.hT (by kernel_rfl) [] [] [0, 1, 2] (by kernel_rfl) (by kernel_rfl) (by kernel_rfl) ?_; simp only [gK, ↓reduceIte, Nat.reduceEqDiff])
           | with_reducible exact True.intro
           | (refine And.intro (by omega) ?_)
           | (simp -dsimp -implicitDefEqProofs (disch := omega) only [↓reduceIte, ↓gA, gB, refs, den, hasTy, Ty.cmp, Ty.depth, reduceCtorEq, Nat.reduceAdd, Nat.reduceSub, Nat.reduceMul, Nat.reduceEqDiff, Nat.reduceLT, Nat.reduceLeDiff, Nat.reduceMod, Nat.reduceDiv, Nat.reducePow, Nat.reduceBEq, Int.reduceToNat, Int.reduceLE, Int.reduceLT, Int.reduceEq, Int.reduceAdd, Int.reduceMul, Int.reduceSub, Int.reduceNeg, Int.reduceNe, Tryd.TS, Tryd.EV, rep4, u256_zero, h])
           | decide)

set_option maxHeartbeats 4000000 in
theorem stweakSecretRef (x : Nat) (t : List D) (hx : x < 115792089237316195423570985008687907853269984665640564039457584007913129639936) (ht : BY t) (htl : t.length = 32) : SCall Tryd.prog 28 [(.arr 4 (.int .u64), u256 x), (.arr 32 (.int .u8), .l t)]
    (fun rs => rs = [.d (.arr 4 (.int .u64)) (u256 (tsN x t)), .d (.int .i64) (.n (tsE x t))]) := by
  have c1 := ssecretRef x hx
  have c2 := gscalarRef t ht htl
  have l2 : fb t % 57896044618658097711785492504343953926634992332820282019728792003956564801911 < 115792089237316195423570985008687907853269984665640564039457584007913129639936 := Nat.lt_trans (Nat.mod_lt _ (by omega)) (by omega)
  have c3 := gaddScalarRef x (fb t % 57896044618658097711785492504343953926634992332820282019728792003956564801911) hx l2
  have l4 := tsV_lt x t
  rw [show (x + fb t % 57896044618658097711785492504343953926634992332820282019728792003956564801911) % 57896044618658097711785492504343953926634992332820282019728792003956564801911 = tsV x t from rfl] at c3
  unfold tsN tsE
  generalize tsV x t = y at *
  generalize fb t % 57896044618658097711785492504343953926634992332820282019728792003956564801911 = s at *
  have hy : y < 115792089237316195423570985008687907853269984665640564039457584007913129639936 := by omega
  have hz := wzeroRef y hy
  refine scall_intro (n := 19) (rl := [.cell 4 45, .tmp 5]) (us := [45, 34]) Tryd.hT Tryd.func28 rfl rfl rfl rfl rfl (Nat.le_of_ble_eq_true rfl) ?_
  intro w0 hL0
  generalize secB x = bv at *
  rcases bv with _ | _
  · repeat' (first
           | (with_reducible refine HCall_mono (c1) ?_; rintro rs rfl)
           | (with_reducible refine HCallF_mono (c1) (by first | rfl | simp [flatR, RV.flat, RV.isD, Ty.flat]) ?_)
           | (with_reducible refine HCallP_mono (c1) ?_; rintro _ _ _ ⟨rfl, rfl, rfl⟩)
           | (refine sdraw (id := 3) Tryd.hT (by kernel_rfl) [5] [2, 3] [0, 1, 2, 3, 4, 5] (by kernel_rfl) (by kernel_rfl) (by kernel_rfl) ?_; simp only [gK, ↓reduceIte, Nat.reduceEqDiff])
           | with_reducible exact True.intro
           | (refine And.intro (by omega) ?_)
           | (simp -dsimp -implicitDefEqProofs (disch := omega) only [↓reduceIte, ↓gA, gB, refs, den, hasTy, Ty.cmp, Ty.depth, reduceCtorEq, Nat.reduceAdd, Nat.reduceSub, Nat.reduceMul, Nat.reduceEqDiff, Nat.reduceLT, Nat.reduceLeDiff, Nat.reduceMod, Nat.reduceDiv, Nat.reducePow, Nat.reduceBEq, Int.reduceToNat, Int.reduceLE, Int.reduceLT, Int.reduceEq, Int.reduceAdd, Int.reduceMul, Int.reduceSub, Int.reduceNeg, Int.reduceNe, Tryd.TS, Tryd.EV, rep4, u256_zero])
           | decide)
  · repeat' (first
           | (with_reducible refine HCall_mono (c1) ?_; rintro rs rfl)
           | (with_reducible refine HCallF_mono (c1) (by first | rfl | simp [flatR, RV.flat, RV.isD, Ty.flat]) ?_)
           | (with_reducible refine HCallP_mono (c1) ?_; rintro _ _ _ ⟨rfl, rfl, rfl⟩)
           | (with_reducible refine HCall_mono (c2) ?_; rintro rs rfl)
           | (with_reducible refine HCallF_mono (c2) (by first | rfl | simp [flatR, RV.flat, RV.isD, Ty.flat]) ?_)
           | (with_reducible refine HCallP_mono (c2) ?_; rintro _ _ _ ⟨rfl, rfl, rfl⟩)
           | (with_reducible refine HCall_mono (c3) ?_; rintro rs rfl)
           | (with_reducible refine HCallF_mono (c3) (by first | rfl | simp [flatR, RV.flat, RV.isD, Ty.flat]) ?_)
           | (with_reducible refine HCallP_mono (c3) ?_; rintro _ _ _ ⟨rfl, rfl, rfl⟩)
           | (with_reducible refine HCall_mono (hz) ?_; rintro rs rfl)
           | (with_reducible refine HCallF_mono (hz) (by first | rfl | simp [flatR, RV.flat, RV.isD, Ty.flat]) ?_)
           | (with_reducible refine HCallP_mono (hz) ?_; rintro _ _ _ ⟨rfl, rfl, rfl⟩)
           | (refine sdraw (id := 3) Tryd.hT (by kernel_rfl) [5] [2, 3] [0, 1, 2, 3, 4, 5] (by kernel_rfl) (by kernel_rfl) (by kernel_rfl) ?_; simp only [gK, ↓reduceIte, Nat.reduceEqDiff])
           | with_reducible exact True.intro
           | (refine And.intro (by omega) ?_)
           | (simp -dsimp -implicitDefEqProofs (disch := omega) only [↓reduceIte, ↓gA, gB, refs, den, hasTy, Ty.cmp, Ty.depth, reduceCtorEq, Nat.reduceAdd, Nat.reduceSub, Nat.reduceMul, Nat.reduceEqDiff, Nat.reduceLT, Nat.reduceLeDiff, Nat.reduceMod, Nat.reduceDiv, Nat.reducePow, Nat.reduceBEq, Int.reduceToNat, Int.reduceLE, Int.reduceLT, Int.reduceEq, Int.reduceAdd, Int.reduceMul, Int.reduceSub, Int.reduceNeg, Int.reduceNe, Tryd.TS, Tryd.EV, rep4, u256_zero])
           | decide)
    refine HIf_dec (a := ()) (b := ()) (fun h => ?_) (fun h => ?_)
    · subst h
      repeat' (first
                | (refine sdraw (id := 3) Tryd.hT (by kernel_rfl) [5] [2, 3] [0, 1, 2, 3, 4, 5] (by kernel_rfl) (by kernel_rfl) (by kernel_rfl) ?_; simp only [gK, ↓reduceIte, Nat.reduceEqDiff])
                | with_reducible exact True.intro
                | (refine And.intro (by omega) ?_)
                | (simp -dsimp -implicitDefEqProofs (disch := omega) only [↓reduceIte, ↓gA, gB, refs, den, hasTy, Ty.cmp, Ty.depth, reduceCtorEq, Nat.reduceAdd, Nat.reduceSub, Nat.reduceMul, Nat.reduceEqDiff, Nat.reduceLT, Nat.reduceLeDiff, Nat.reduceMod, Nat.reduceDiv, Nat.reducePow, Nat.reduceBEq, Int.reduceToNat, Int.reduceLE, Int.reduceLT, Int.reduceEq, Int.reduceAdd, Int.reduceMul, Int.reduceSub, Int.reduceNeg, Int.reduceNe, Tryd.TS, Tryd.EV, rep4, u256_zero])
                | decide)
    · rw [if_neg h]
      repeat' (first
                | (refine sdraw (id := 3) Tryd.hT (by kernel_rfl) [5] [2, 3] [0, 1, 2, 3, 4, 5] (by kernel_rfl) (by kernel_rfl) (by kernel_rfl) ?_; simp only [gK, ↓reduceIte, Nat.reduceEqDiff])
                | with_reducible exact True.intro
                | (refine And.intro (by omega) ?_)
                | (simp -dsimp -implicitDefEqProofs (disch := omega) only [↓reduceIte, ↓gA, gB, refs, den, hasTy, Ty.cmp, Ty.depth, reduceCtorEq, Nat.reduceAdd, Nat.reduceSub, Nat.reduceMul, Nat.reduceEqDiff, Nat.reduceLT, Nat.reduceLeDiff, Nat.reduceMod, Nat.reduceDiv, Nat.reducePow, Nat.reduceBEq, Int.reduceToNat, Int.reduceLE, Int.reduceLT, Int.reduceEq, Int.reduceAdd, Int.reduceMul, Int.reduceSub, Int.reduceNeg, Int.reduceNe, Tryd.TS, Tryd.EV, rep4, u256_zero])
                | decide)
end Go.Proofs
/- Signatures: the reference's bytes; the laws' texts. -/
namespace Go.Proofs
open Go.SE

set_option maxHeartbeats 4000000 in
theorem sdecodeRef (b : List D) (hB : BY b) (hb : b.length ≤ 35184372088832) : SCall Tryd.prog 21 [(.sl (.int .u8), .l b)]
    (fun rs => rs = [.d (.cons (.arr 4 (.int .u64)) (.cons (.arr 4 (.int .u64)) .nil)) (decS b), .d (.int .i64) (.n (decE b))]) := by
  by_cases hl : b.length = 64
  · have l1 : (b.take 32).length = 32 := by simp; omega
    have l2 : ((b.drop 32).take 32).length = 32 := by simp; omega
    have l3 : (b.drop 32).length = 32 := by simp; omega
    have c1 := wfromBytesRef (b.take 32) (hB.take 32) l1
    have c2 := wfromBytesRef ((b.drop 32).take 32) ((hB.drop 32).take 32) l2
    have d1 := fb_lt (hB.take 32)
    have d2 := fb_lt ((hB.drop 32).take 32)
    have c3 := ssmallRef _ d1
    have c4 := ssmallRef _ d2
    have e3 : List.take 32 (List.take 32 b) = List.take 32 b := by rw [List.take_take, Nat.min_self]
    have e6 : List.take 32 (List.take 32 (List.drop 32 b)) = List.take 32 (List.drop 32 b) := by rw [List.take_take, Nat.min_self]
    have e4 : List.drop 32 (List.take 64 b) = (b.drop 32).take 32 := by rw [List.drop_take]
    have e5 : List.take 64 b = b := List.take_of_length_le (by omega)
    rw [show decE b = if decC b < 57896044618658097711785492504343953926634992332820282019728792003956564801911 ∧ decZ b < 57896044618658097711785492504343953926634992332820282019728792003956564801911 then 0 else 5 by unfold decE; rw [if_pos hl], show decS b = if decC b < 57896044618658097711785492504343953926634992332820282019728792003956564801911 ∧ decZ b < 57896044618658097711785492504343953926634992332820282019728792003956564801911 then .l [u256 (decC b), u256 (decZ b)] else .l [u256 0, u256 0] by unfold decS; simp only [hl, true_and]]
    unfold decC decZ
    generalize fb (b.take 32) = x at *
    generalize fb ((b.drop 32).take 32) = y at *
    refine scall_intro (n := 36) (rl := [.cell 2 50, .tmp 3]) (us := [50, 34]) Tryd.hT Tryd.func21 rfl rfl rfl rfl rfl (Nat.le_of_ble_eq_true rfl) ?_
    intro w0 hL0
    repeat' (first
              | (with_reducible refine HCall_mono (c1) ?_; rintro rs rfl)
              | (with_reducible refine HCallF_mono (c1) (by first | rfl | simp [flatR, RV.flat, RV.isD, Ty.flat]) ?_)
              | (with_reducible refine HCallP_mono (c1) ?_; rintro _ _ _ ⟨rfl, rfl, rfl⟩)
              | (with_reducible refine HCall_mono (c2) ?_; rintro rs rfl)
              | (with_reducible refine HCallF_mono (c2) (by first | rfl | simp [flatR, RV.flat, RV.isD, Ty.flat]) ?_)
              | (with_reducible refine HCallP_mono (c2) ?_; rintro _ _ _ ⟨rfl, rfl, rfl⟩)
              | (refine sdraw (id := 4) Tryd.hT (by kernel_rfl) [3] [] [0, 1, 2, 3] (by kernel_rfl) (by kernel_rfl) (by kernel_rfl) ?_; simp only [gK, ↓reduceIte, Nat.reduceEqDiff])
              | (refine sdraw (id := 5) Tryd.hT (by kernel_rfl) [3] [] [0, 1, 2, 3] (by kernel_rfl) (by kernel_rfl) (by kernel_rfl) ?_; simp only [gK, ↓reduceIte, Nat.reduceEqDiff])
              | (refine sdraw (id := 6) Tryd.hT (by kernel_rfl) [6] [1, 3] [0, 2, 1, 3, 4, 5, 6] (by kernel_rfl) (by kernel_rfl) (by kernel_rfl) ?_; simp only [gK, ↓reduceIte, Nat.reduceEqDiff])
              | with_reducible exact True.intro
              | (refine And.intro (by omega) ?_)
              | (simp -dsimp -implicitDefEqProofs (disch := omega) only [↓reduceIte, ↓gA, gB, refs, den, hasTy, Ty.cmp, Ty.depth, reduceCtorEq, Nat.reduceAdd, Nat.reduceSub, Nat.reduceMul, Nat.reduceEqDiff, Nat.reduceLT, Nat.reduceLeDiff, Nat.reduceMod, Nat.reduceDiv, Nat.reducePow, Nat.reduceBEq, Int.reduceToNat, Int.reduceLE, Int.reduceLT, Int.reduceEq, Int.reduceAdd, Int.reduceMul, Int.reduceSub, Int.reduceNeg, Int.reduceNe, Tryd.TS, Tryd.EV, hl, l1, l2, l3, e3, e4, e5, e6, u256_zero, set_sg0, set_sg1, List.take_zero, List.nil_append, List.drop_replicate, List.length_replicate, Nat.min_self, List.replicate_zero, List.append_nil])
              | decide)
    first | (with_reducible refine HCall_mono (c3) ?_; rintro rs rfl) | (with_reducible refine HCallF_mono (c3) (by first | rfl | simp [flatR, RV.flat, RV.isD, Ty.flat]) ?_) | (refine SCall.mono (c3) ?_; rintro rs rfl)
    by_cases h3 : x < 57896044618658097711785492504343953926634992332820282019728792003956564801911
    · rw [decide_eq_true h3]
      simp -dsimp -implicitDefEqProofs (disch := omega) only [↓reduceIte, ↓gA, gB, refs, den, hasTy, Ty.cmp, Ty.depth, reduceCtorEq, Nat.reduceAdd, Nat.reduceSub, Nat.reduceMul, Nat.reduceEqDiff, Nat.reduceLT, Nat.reduceLeDiff, Nat.reduceMod, Nat.reduceDiv, Nat.reducePow, Nat.reduceBEq, Int.reduceToNat, Int.reduceLE, Int.reduceLT, Int.reduceEq, Int.reduceAdd, Int.reduceMul, Int.reduceSub, Int.reduceNeg, Int.reduceNe, Tryd.TS, Tryd.EV, rep4]
      first | (with_reducible refine HCall_mono (c4) ?_; rintro rs rfl) | (with_reducible refine HCallF_mono (c4) (by first | rfl | simp [flatR, RV.flat, RV.isD, Ty.flat]) ?_) | (refine SCall.mono (c4) ?_; rintro rs rfl)
      by_cases h4 : y < 57896044618658097711785492504343953926634992332820282019728792003956564801911
      · rw [decide_eq_true h4, if_pos ⟨h3, h4⟩, if_pos ⟨h3, h4⟩]
        simp -dsimp -implicitDefEqProofs (disch := omega) only [↓reduceIte, ↓gA, gB, refs, den, hasTy, Ty.cmp, Ty.depth, reduceCtorEq, Nat.reduceAdd, Nat.reduceSub, Nat.reduceMul, Nat.reduceEqDiff, Nat.reduceLT, Nat.reduceLeDiff, Nat.reduceMod, Nat.reduceDiv, Nat.reducePow, Nat.reduceBEq, Int.reduceToNat, Int.reduceLE, Int.reduceLT, Int.reduceEq, Int.reduceAdd, Int.reduceMul, Int.reduceSub, Int.reduceNeg, Int.reduceNe, Tryd.TS, Tryd.EV, rep4]
      · rw [decide_eq_false h4, if_neg (fun k => h4 k.2), if_neg (fun k => h4 k.2)]
        simp -dsimp -implicitDefEqProofs (disch := omega) only [↓reduceIte, ↓gA, gB, refs, den, hasTy, Ty.cmp, Ty.depth, reduceCtorEq, Nat.reduceAdd, Nat.reduceSub, Nat.reduceMul, Nat.reduceEqDiff, Nat.reduceLT, Nat.reduceLeDiff, Nat.reduceMod, Nat.reduceDiv, Nat.reducePow, Nat.reduceBEq, Int.reduceToNat, Int.reduceLE, Int.reduceLT, Int.reduceEq, Int.reduceAdd, Int.reduceMul, Int.reduceSub, Int.reduceNeg, Int.reduceNe, Tryd.TS, Tryd.EV, rep4, u256_zero]
    · rw [decide_eq_false h3, if_neg (fun k => h3 k.1), if_neg (fun k => h3 k.1)]
      simp -dsimp -implicitDefEqProofs (disch := omega) only [↓reduceIte, ↓gA, gB, refs, den, hasTy, Ty.cmp, Ty.depth, reduceCtorEq, Nat.reduceAdd, Nat.reduceSub, Nat.reduceMul, Nat.reduceEqDiff, Nat.reduceLT, Nat.reduceLeDiff, Nat.reduceMod, Nat.reduceDiv, Nat.reducePow, Nat.reduceBEq, Int.reduceToNat, Int.reduceLE, Int.reduceLT, Int.reduceEq, Int.reduceAdd, Int.reduceMul, Int.reduceSub, Int.reduceNeg, Int.reduceNe, Tryd.TS, Tryd.EV, rep4, u256_zero]
  · rw [show decE b = 8 by unfold decE; rw [if_neg hl], show decS b = .l [u256 0, u256 0] by unfold decS; rw [if_neg (fun k => hl k.1)]]
    refine scall_intro (n := 36) (rl := [.cell 2 50, .tmp 3]) (us := [50, 34]) Tryd.hT Tryd.func21 rfl rfl rfl rfl rfl (Nat.le_of_ble_eq_true rfl) ?_
    intro w0 hL0
    simp -dsimp -implicitDefEqProofs (disch := omega) only [↓reduceIte, ↓gA, gB, refs, den, hasTy, Ty.cmp, Ty.depth, reduceCtorEq, Nat.reduceAdd, Nat.reduceSub, Nat.reduceMul, Nat.reduceEqDiff, Nat.reduceLT, Nat.reduceLeDiff, Nat.reduceMod, Nat.reduceDiv, Nat.reducePow, Nat.reduceBEq, Int.reduceToNat, Int.reduceLE, Int.reduceLT, Int.reduceEq, Int.reduceAdd, Int.reduceMul, Int.reduceSub, Int.reduceNeg, Int.reduceNe, Tryd.TS, Tryd.EV, rep4, u256_zero]
    refine HIf_ndec (a := ()) (b := ()) (fun h => ?_) (fun h => ?_)
    · simp -dsimp -implicitDefEqProofs (disch := omega) only [↓reduceIte, ↓gA, gB, refs, den, hasTy, Ty.cmp, Ty.depth, reduceCtorEq, Nat.reduceAdd, Nat.reduceSub, Nat.reduceMul, Nat.reduceEqDiff, Nat.reduceLT, Nat.reduceLeDiff, Nat.reduceMod, Nat.reduceDiv, Nat.reducePow, Nat.reduceBEq, Int.reduceToNat, Int.reduceLE, Int.reduceLT, Int.reduceEq, Int.reduceAdd, Int.reduceMul, Int.reduceSub, Int.reduceNeg, Int.reduceNe, Tryd.TS, Tryd.EV, rep4, u256_zero]
    · omega

set_option maxHeartbeats 4000000 in
theorem sencodeRef (c z : Nat) (hc : c < 115792089237316195423570985008687907853269984665640564039457584007913129639936) (hz : z < 115792089237316195423570985008687907853269984665640564039457584007913129639936) : SCall Tryd.prog 24 [(.cons (.arr 4 (.int .u64)) (.cons (.arr 4 (.int .u64)) .nil), .l [u256 c, u256 z])] (fun rs => rs = [.own (.int .u8) (toB c ++ toB z)]) := by
  have c1 := snumberRef c hc
  have c2 := snumberRef z hz
  have l1 := toB_len c
  have l2 := toB_len z
  have hj : joinL [toB c, toB z] = toB c ++ toB z := by simp [joinL]
  have c3 := joinRef [toB c, toB z] (by simp) (by rw [hj, List.length_append]; omega)
  rw [hj] at c3
  simp only [List.map_cons, List.map_nil] at c3
  generalize toB c = b1 at *
  generalize toB z = b2 at *
  have t1 : List.take 32 b1 = b1 := List.take_of_length_le (by omega)
  have t2 : List.take 32 b2 = b2 := List.take_of_length_le (by omega)
  refine scall_intro (n := 11) (rl := [.tmp 2]) (us := [27]) Tryd.hT Tryd.func24 rfl rfl rfl rfl rfl (Nat.le_of_ble_eq_true rfl) ?_
  intro w0 hL0
  repeat' (first
            | (with_reducible refine HCall_mono (c1) ?_; rintro rs rfl)
            | (with_reducible refine HCallF_mono (c1) (by first | rfl | simp [flatR, RV.flat, RV.isD, Ty.flat]) ?_)
            | (with_reducible refine HCallP_mono (c1) ?_; rintro _ _ _ ⟨rfl, rfl, rfl⟩)
            | (with_reducible refine HCall_mono (c2) ?_; rintro rs rfl)
            | (with_reducible refine HCallF_mono (c2) (by first | rfl | simp [flatR, RV.flat, RV.isD, Ty.flat]) ?_)
            | (with_reducible refine HCallP_mono (c2) ?_; rintro _ _ _ ⟨rfl, rfl, rfl⟩)
            | (with_reducible refine HCall_mono (c3) ?_; rintro rs rfl)
            | (with_reducible refine HCallF_mono (c3) (by first | rfl | simp [flatR, RV.flat, RV.isD, Ty.flat]) ?_)
            | (with_reducible refine HCallP_mono (c3) ?_; rintro _ _ _ ⟨rfl, rfl, rfl⟩)
            | (refine sdraw (id := 1) Tryd.hT (by kernel_rfl) [] [] [0, 1, 3, 4, 2, 5, 6, 7, 8] (by kernel_rfl) (by kernel_rfl) (by kernel_rfl) ?_; simp only [gK, ↓reduceIte, Nat.reduceEqDiff])
            | with_reducible exact True.intro
            | (refine And.intro (by omega) ?_)
            | (simp -dsimp -implicitDefEqProofs (disch := omega) only [↓reduceIte, ↓gA, gB, refs, den, hasTy, Ty.cmp, Ty.depth, reduceCtorEq, Nat.reduceAdd, Nat.reduceSub, Nat.reduceMul, Nat.reduceEqDiff, Nat.reduceLT, Nat.reduceLeDiff, Nat.reduceMod, Nat.reduceDiv, Nat.reducePow, Nat.reduceBEq, Int.reduceToNat, Int.reduceLE, Int.reduceLT, Int.reduceEq, Int.reduceAdd, Int.reduceMul, Int.reduceSub, Int.reduceNeg, Int.reduceNe, Tryd.TS, Tryd.EV, rep4, l1, l2, t1, t2])
            | decide)

theorem dec_enc (c z : Nat) : decC (toB c ++ toB z) = fb (toB c) ∧ decZ (toB c ++ toB z) = fb (toB z) := by
  have l1 := toB_len c
  have l2 := toB_len z
  unfold decC decZ
  rw [List.take_left' l1, List.drop_left' l1, List.take_of_length_le (by omega)]
  exact ⟨rfl, rfl⟩
set_option maxHeartbeats 4000000 in
theorem bev_toB (n s : Nat) (hs : s = 0 ∨ s = 8 ∨ s = 16 ∨ s = 24) : bev (toB n) s 8 = n / 2 ^ (64 * (3 - s / 8)) % 18446744073709551616 := by
  have hx : ∀ i, i < 32 → byt (toB n) i = n / 2 ^ (64 * (3 - i / 8)) % 18446744073709551616 / 2 ^ (56 - 8 * (i % 8)) % 256 := by
    intro i hi
    unfold byt toB
    rw [List.getD_eq_getElem?_getD, List.getElem?_map, List.getElem?_range hi]
    rfl
  simp only [bev, Nat.zero_mul, Nat.zero_add]
  rcases hs with rfl | rfl | rfl | rfl
  all_goals
    rw [hx _ (by omega), hx _ (by omega), hx _ (by omega), hx _ (by omega), hx _ (by omega), hx _ (by omega), hx _ (by omega), hx _ (by omega)]
    simp only [Nat.reduceAdd, Nat.reduceDiv, Nat.reduceSub, Nat.reduceMod, Nat.reduceMul]
    generalize hv : n / 2 ^ _ % 18446744073709551616 = v
    have hlt : v < 18446744073709551616 := by rw [← hv]; exact Nat.mod_lt _ (by omega)
    clear hv hx
    omega
theorem fb_toB (n : Nat) (hn : n < 115792089237316195423570985008687907853269984665640564039457584007913129639936) : fb (toB n) = n := by
  have h0 := bev_toB n 24 (by omega)
  have h1 := bev_toB n 16 (by omega)
  have h2 := bev_toB n 8 (by omega)
  have h3 := bev_toB n 0 (by omega)
  unfold fb wrd
  simp only [Nat.reduceSub, Nat.reduceMul, show min 8 8 = 8 from rfl, show min 8 16 = 8 from rfl, show min 8 24 = 8 from rfl, show min 8 32 = 8 from rfl]
  rw [h0, h1, h2, h3]
  simp only [Nat.reduceDiv, Nat.reduceSub, Nat.reduceMul, Nat.reducePow, Nat.div_one]
  omega

theorem same_refl (x : D) : ((toBA x).toList == (toBA x).toList) = true := by simp

set_option maxHeartbeats 4000000 in
set_option maxRecDepth 100000 in
theorem signEncodes (c z q : Nat) (b : List D) (hc : c < 115792089237316195423570985008687907853269984665640564039457584007913129639936) (hz : z < 115792089237316195423570985008687907853269984665640564039457584007913129639936) (hB : BY b) (hb : b.length ≤ 9223372036854775807) (hq : q = 57896044618658097711785492504343953926634992332820282019728792003956564801911) :
    SCall Tryd.prog 5 [(.cons (.arr 4 (.int .u64)) (.cons (.arr 4 (.int .u64)) .nil), .l [u256 c, u256 z]), (.sl (.int .u8), .l b)] (fun rs => rs = [.d .bool (.b true)]) := by
  by_cases hl : b.length ≤ 200
  · have c1 := sdecode b hB (by omega)
    have c2 := sdecodeRef b hB (by omega)
    have c3 := sencode c z hc hz
    have c4 := sencodeRef c z hc hz
    have hB2 : BY (toB c ++ toB z) := (toB_by c).append (toB_by z)
    have hl2 : (toB c ++ toB z).length = 64 := by rw [List.length_append, toB_len, toB_len]
    have c5 := sdecode (toB c ++ toB z) hB2 (by omega)
    have c6 := same' (toB c ++ toB z) (toB c ++ toB z)
    rw [same_refl] at c6
    have hd := dec_enc c z
    rw [fb_toB c hc, fb_toB z hz] at hd
    have key : (decE (toB c ++ toB z) = 0 ∧ decS (toB c ++ toB z) = .l [u256 c, u256 z]) ∨ decE (toB c ++ toB z) = 5 := by
      unfold decE decS
      rw [if_pos hl2, hd.1, hd.2]
      by_cases h : c < 57896044618658097711785492504343953926634992332820282019728792003956564801911 ∧ z < 57896044618658097711785492504343953926634992332820282019728792003956564801911
      · left
        rw [if_pos h, if_pos ⟨hl2, h⟩]
        exact ⟨rfl, rfl⟩
      · right
        rw [if_neg h]
    generalize toB c ++ toB z = x at *
    have tx : List.take 64 x = x := List.take_of_length_le (by omega)
    have dq : ∀ s : D, deq (.cons (.arr 4 (.int .u64)) (.cons (.arr 4 (.int .u64)) .nil)) s s = true := deq_self _
    generalize decS b = s1 at *
    generalize decE b = e1 at *
    generalize u256 c = uc at *
    generalize u256 z = uz at *
    refine scall_intro (n := 55) (rl := [.tmp 4]) (us := [4]) Tryd.hT Tryd.func5 rfl rfl rfl rfl rfl (Nat.le_of_ble_eq_true rfl) ?_
    intro w0 hL0
    repeat' (first
              | (with_reducible refine HCall_mono (gsane6 q hq) ?_; rintro rs rfl)
              | (with_reducible refine HCallF_mono (gsane6 q hq) (by first | rfl | simp [flatR, RV.flat, RV.isD, Ty.flat]) ?_)
              | (with_reducible refine HCallP_mono (gsane6 q hq) ?_; rintro _ _ _ ⟨rfl, rfl, rfl⟩)
              | (with_reducible refine HCall_mono (c1) ?_; rintro rs rfl)
              | (with_reducible refine HCallF_mono (c1) (by first | rfl | simp [flatR, RV.flat, RV.isD, Ty.flat]) ?_)
              | (with_reducible refine HCallP_mono (c1) ?_; rintro _ _ _ ⟨rfl, rfl, rfl⟩)
              | (with_reducible refine HCall_mono (c2) ?_; rintro rs rfl)
              | (with_reducible refine HCallF_mono (c2) (by first | rfl | simp [flatR, RV.flat, RV.isD, Ty.flat]) ?_)
              | (with_reducible refine HCallP_mono (c2) ?_; rintro _ _ _ ⟨rfl, rfl, rfl⟩)
              | (refine sdraw (id := 7) Tryd.hT (by kernel_rfl) [] [] [0, 1, 2, 3, 4, 5, 6, 7, 8, 9, 11, 10, 12, 13, 14, 15] (by kernel_rfl) (by kernel_rfl) (by kernel_rfl) ?_; simp only [gK, ↓reduceIte, Nat.reduceEqDiff])
              | with_reducible exact True.intro
              | (refine And.intro (by omega) ?_)
              | (simp -dsimp -implicitDefEqProofs (disch := omega) only [↓reduceIte, ↓gA, gB, refs, den, hasTy, Ty.cmp, Ty.depth, reduceCtorEq, Nat.reduceAdd, Nat.reduceSub, Nat.reduceMul, Nat.reduceEqDiff, Nat.reduceLT, Nat.reduceLeDiff, Nat.reduceMod, Nat.reduceDiv, Nat.reducePow, Nat.reduceBEq, Int.reduceToNat, Int.reduceLE, Int.reduceLT, Int.reduceEq, Int.reduceAdd, Int.reduceMul, Int.reduceSub, Int.reduceNeg, Int.reduceNe, Tryd.TS, Tryd.EV, hl2, tx, dq])
              | decide)
    refine HIf_dec (a := ()) (b := ()) (fun h1 => ?_) (fun h1 => ?_)
    · omega
    repeat' (first
              | (with_reducible refine HCall_mono (gsane6 q hq) ?_; rintro rs rfl)
              | (with_reducible refine HCallF_mono (gsane6 q hq) (by first | rfl | simp [flatR, RV.flat, RV.isD, Ty.flat]) ?_)
              | (with_reducible refine HCallP_mono (gsane6 q hq) ?_; rintro _ _ _ ⟨rfl, rfl, rfl⟩)
              | (with_reducible refine HCall_mono (c1) ?_; rintro rs rfl)
              | (with_reducible refine HCallF_mono (c1) (by first | rfl | simp [flatR, RV.flat, RV.isD, Ty.flat]) ?_)
              | (with_reducible refine HCallP_mono (c1) ?_; rintro _ _ _ ⟨rfl, rfl, rfl⟩)
              | (with_reducible refine HCall_mono (c2) ?_; rintro rs rfl)
              | (with_reducible refine HCallF_mono (c2) (by first | rfl | simp [flatR, RV.flat, RV.isD, Ty.flat]) ?_)
              | (with_reducible refine HCallP_mono (c2) ?_; rintro _ _ _ ⟨rfl, rfl, rfl⟩)
              | (with_reducible refine HCall_mono (c3) ?_; rintro rs rfl)
              | (with_reducible refine HCallF_mono (c3) (by first | rfl | simp [flatR, RV.flat, RV.isD, Ty.flat]) ?_)
              | (with_reducible refine HCallP_mono (c3) ?_; rintro _ _ _ ⟨rfl, rfl, rfl⟩)
              | (with_reducible refine HCall_mono (c4) ?_; rintro rs rfl)
              | (with_reducible refine HCallF_mono (c4) (by first | rfl | simp [flatR, RV.flat, RV.isD, Ty.flat]) ?_)
              | (with_reducible refine HCallP_mono (c4) ?_; rintro _ _ _ ⟨rfl, rfl, rfl⟩)
              | (with_reducible refine HCall_mono (c5) ?_; rintro rs rfl)
              | (with_reducible refine HCallF_mono (c5) (by first | rfl | simp [flatR, RV.flat, RV.isD, Ty.flat]) ?_)
              | (with_reducible refine HCallP_mono (c5) ?_; rintro _ _ _ ⟨rfl, rfl, rfl⟩)
              | (with_reducible refine HCall_mono (c6) ?_; rintro rs rfl)
              | (with_reducible refine HCallF_mono (c6) (by first | rfl | simp [flatR, RV.flat, RV.isD, Ty.flat]) ?_)
              | (with_reducible refine HCallP_mono (c6) ?_; rintro _ _ _ ⟨rfl, rfl, rfl⟩)
              | (refine sdraw (id := 7) Tryd.hT (by kernel_rfl) [] [] [0, 1, 2, 3, 4, 5, 6, 7, 8, 9, 11, 10, 12, 13, 14, 15] (by kernel_rfl) (by kernel_rfl) (by kernel_rfl) ?_; simp only [gK, ↓reduceIte, Nat.reduceEqDiff])
              | with_reducible exact True.intro
              | (refine And.intro (by omega) ?_)
              | (simp -dsimp -implicitDefEqProofs (disch := omega) only [↓reduceIte, ↓gA, gB, refs, den, hasTy, Ty.cmp, Ty.depth, reduceCtorEq, Nat.reduceAdd, Nat.reduceSub, Nat.reduceMul, Nat.reduceEqDiff, Nat.reduceLT, Nat.reduceLeDiff, Nat.reduceMod, Nat.reduceDiv, Nat.reducePow, Nat.reduceBEq, Int.reduceToNat, Int.reduceLE, Int.reduceLT, Int.reduceEq, Int.reduceAdd, Int.reduceMul, Int.reduceSub, Int.reduceNeg, Int.reduceNe, Tryd.TS, Tryd.EV, hl2, tx, dq])
              | decide)
    rcases key with ⟨k1, k2⟩ | k1
    · rw [k1, k2]
      repeat' (first
                | (refine sdraw (id := 7) Tryd.hT (by kernel_rfl) [] [] [0, 1, 2, 3, 4, 5, 6, 7, 8, 9, 11, 10, 12, 13, 14, 15] (by kernel_rfl) (by kernel_rfl) (by kernel_rfl) ?_; simp only [gK, ↓reduceIte, Nat.reduceEqDiff])
                | with_reducible exact True.intro
                | (refine And.intro (by omega) ?_)
                | (simp -dsimp -implicitDefEqProofs (disch := omega) only [↓reduceIte, ↓gA, gB, refs, den, hasTy, Ty.cmp, Ty.depth, reduceCtorEq, Nat.reduceAdd, Nat.reduceSub, Nat.reduceMul, Nat.reduceEqDiff, Nat.reduceLT, Nat.reduceLeDiff, Nat.reduceMod, Nat.reduceDiv, Nat.reducePow, Nat.reduceBEq, Int.reduceToNat, Int.reduceLE, Int.reduceLT, Int.reduceEq, Int.reduceAdd, Int.reduceMul, Int.reduceSub, Int.reduceNeg, Int.reduceNe, Tryd.TS, Tryd.EV, dq])
                | decide)
    · rw [k1]
      repeat' (first
                | (refine sdraw (id := 7) Tryd.hT (by kernel_rfl) [] [] [0, 1, 2, 3, 4, 5, 6, 7, 8, 9, 11, 10, 12, 13, 14, 15] (by kernel_rfl) (by kernel_rfl) (by kernel_rfl) ?_; simp only [gK, ↓reduceIte, Nat.reduceEqDiff])
                | with_reducible exact True.intro
                | (refine And.intro (by omega) ?_)
                | (simp -dsimp -implicitDefEqProofs (disch := omega) only [↓reduceIte, ↓gA, gB, refs, den, hasTy, Ty.cmp, Ty.depth, reduceCtorEq, Nat.reduceAdd, Nat.reduceSub, Nat.reduceMul, Nat.reduceEqDiff, Nat.reduceLT, Nat.reduceLeDiff, Nat.reduceMod, Nat.reduceDiv, Nat.reducePow, Nat.reduceBEq, Int.reduceToNat, Int.reduceLE, Int.reduceLT, Int.reduceEq, Int.reduceAdd, Int.reduceMul, Int.reduceSub, Int.reduceNeg, Int.reduceNe, Tryd.TS, Tryd.EV, dq])
                | decide)
  · refine scall_intro (n := 55) (rl := [.tmp 4]) (us := [4]) Tryd.hT Tryd.func5 rfl rfl rfl rfl rfl (Nat.le_of_ble_eq_true rfl) ?_
    intro w0 hL0
    repeat' (first
              | (with_reducible refine HCall_mono (gsane6 q hq) ?_; rintro rs rfl)
              | (with_reducible refine HCallF_mono (gsane6 q hq) (by first | rfl | simp [flatR, RV.flat, RV.isD, Ty.flat]) ?_)
              | (with_reducible refine HCallP_mono (gsane6 q hq) ?_; rintro _ _ _ ⟨rfl, rfl, rfl⟩)
              | (refine sdraw (id := 7) Tryd.hT (by kernel_rfl) [] [] [0, 1, 2, 3, 4, 5, 6, 7, 8, 9, 11, 10, 12, 13, 14, 15] (by kernel_rfl) (by kernel_rfl) (by kernel_rfl) ?_; simp only [gK, ↓reduceIte, Nat.reduceEqDiff])
              | with_reducible exact True.intro
              | (refine And.intro (by omega) ?_)
              | (simp -dsimp -implicitDefEqProofs (disch := omega) only [↓reduceIte, ↓gA, gB, refs, den, hasTy, Ty.cmp, Ty.depth, reduceCtorEq, Nat.reduceAdd, Nat.reduceSub, Nat.reduceMul, Nat.reduceEqDiff, Nat.reduceLT, Nat.reduceLeDiff, Nat.reduceMod, Nat.reduceDiv, Nat.reducePow, Nat.reduceBEq, Int.reduceToNat, Int.reduceLE, Int.reduceLT, Int.reduceEq, Int.reduceAdd, Int.reduceMul, Int.reduceSub, Int.reduceNeg, Int.reduceNe, Tryd.TS, Tryd.EV, rep4])
              | decide)
    refine HIf_dec (a := ()) (b := ()) (fun h1 => ?_) (fun h1 => ?_)
    · repeat' (first
           | (refine sdraw (id := 7) Tryd.hT (by kernel_rfl) [] [] [0, 1, 2, 3, 4, 5, 6, 7, 8, 9, 11, 10, 12, 13, 14, 15] (by kernel_rfl) (by kernel_rfl) (by kernel_rfl) ?_; simp only [gK, ↓reduceIte, Nat.reduceEqDiff])
           | with_reducible exact True.intro
           | (refine And.intro (by omega) ?_)
           | (simp -dsimp -implicitDefEqProofs (disch := omega) only [↓reduceIte, ↓gA, gB, refs, den, hasTy, Ty.cmp, Ty.depth, reduceCtorEq, Nat.reduceAdd, Nat.reduceSub, Nat.reduceMul, Nat.reduceEqDiff, Nat.reduceLT, Nat.reduceLeDiff, Nat.reduceMod, Nat.reduceDiv, Nat.reducePow, Nat.reduceBEq, Int.reduceToNat, Int.reduceLE, Int.reduceLT, Int.reduceEq, Int.reduceAdd, Int.reduceMul, Int.reduceSub, Int.reduceNeg, Int.reduceNe, Tryd.TS, Tryd.EV, rep4])
           | decide)
    · omega

set_option maxHeartbeats 4000000 in
set_option maxRecDepth 100000 in
theorem signTweaks (x p q : Nat) (t : List D) (hx : x < 115792089237316195423570985008687907853269984665640564039457584007913129639936) (hp : p < 115792089237316195423570985008687907853269984665640564039457584007913129639936) (ht : BY t) (htl : t.length = 32) (hq : q = 57896044618658097711785492504343953926634992332820282019728792003956564801911) :
    SCall Tryd.prog 6 [(.arr 4 (.int .u64), u256 x), (.arr 4 (.int .u64), u256 p), (.arr 32 (.int .u8), .l t)] (fun rs => rs = [.d .bool (.b true)]) := by
  have c1 := stweak p q t hp ht htl hq
  have c2 := stweakRef p q t hp ht htl hq
  have c3 := stweakSecret x t hx ht htl
  have c4 := stweakSecretRef x t hx ht htl
  have c5 := spublicRef x hx
  have lP := pubN_lt x
  have c6 := stweak (pubN x) q t lP ht htl hq
  have lT := tsN_lt x t
  have c7 := spublicRef (tsN x t) lT
  have dq : ∀ s : D, deq (.arr 4 (.int .u64)) s s = true := deq_self _
  have key : (secB x = false ∧ pubE x = 60 ∧ tsE x t = 60) ∨ (pubE x = 0 ∧ tsE x t = 5 ∧ twE q (pubN x) t = 5) ∨ (pubE x = 0 ∧ tsE x t = 0 ∧ twE q (pubN x) t = 0 ∧ pubE (tsN x t) = 0 ∧ twN q (pubN x) t = pubN (tsN x t)) := by
    rcases hs : secB x with _ | _
    · left
      unfold pubE tsE
      rw [hs]
      exact ⟨rfl, rfl, rfl⟩
    · right
      have hv := val_pub hq hs
      have hP : pubN x = 4 ^ x % 115792089237316195423570985008687907853269984665640564039457584007913129603823 := by unfold pubN; rw [hs]; rfl
      have hE : pubE x = 0 := by unfold pubE; rw [hs]; rfl
      have hw : twP (pubN x) t = 4 ^ tsV x t % 115792089237316195423570985008687907853269984665640564039457584007913129603823 := by
        unfold twP tsV
        rw [hP, p4_mul, ← p4_mod hq, hq]
      have l4 := tsV_lt x t
      unfold tsE twE
      rw [hs, hv, hE, hw]
      by_cases h0 : tsV x t = 0
      · left
        rw [h0]
        refine ⟨rfl, rfl, ?_⟩
        rw [if_pos rfl, if_pos (by decide)]
      · right
        have hsv : secB (tsV x t) = true := by
          unfold secB
          rw [decide_eq_true h0, decide_eq_true l4]
          rfl
        have hN : tsN x t = tsV x t := by unfold tsN; rw [hs]; rfl
        have h1 := p4_one (s := tsV x t) (by omega) l4
        rw [hN]
        refine ⟨rfl, by rw [if_pos rfl, if_neg h0], by rw [if_pos rfl, if_neg h1], by unfold pubE; rw [hsv]; rfl, ?_⟩
        unfold twN
        rw [hv, hw, if_pos rfl, if_neg h1]
        unfold pubN
        rw [hsv]
        rfl
  generalize twE q p t = e1 at *
  generalize twN q p t = n1 at *
  generalize twE q (pubN x) t = e2 at *
  generalize twN q (pubN x) t = n2 at *
  generalize pubN (tsN x t) = n3 at *
  generalize pubE (tsN x t) = e3 at *
  generalize tsN x t = n4 at *
  generalize tsE x t = e4 at *
  generalize pubN x = n5 at *
  generalize pubE x = e5 at *
  refine scall_intro (n := 101) (rl := [.tmp 6]) (us := [4]) Tryd.hT Tryd.func6 rfl rfl rfl rfl rfl (Nat.le_of_ble_eq_true rfl) ?_
  intro w0 hL0
  repeat' (first
            | (with_reducible refine HCall_mono (gsane6 q hq) ?_; rintro rs rfl)
            | (with_reducible refine HCallF_mono (gsane6 q hq) (by first | rfl | simp [flatR, RV.flat, RV.isD, Ty.flat]) ?_)
            | (with_reducible refine HCallP_mono (gsane6 q hq) ?_; rintro _ _ _ ⟨rfl, rfl, rfl⟩)
            | (with_reducible refine HCall_mono (c1) ?_; rintro rs rfl)
            | (with_reducible refine HCallF_mono (c1) (by first | rfl | simp [flatR, RV.flat, RV.isD, Ty.flat]) ?_)
            | (with_reducible refine HCallP_mono (c1) ?_; rintro _ _ _ ⟨rfl, rfl, rfl⟩)
            | (with_reducible refine HCall_mono (c2) ?_; rintro rs rfl)
            | (with_reducible refine HCallF_mono (c2) (by first | rfl | simp [flatR, RV.flat, RV.isD, Ty.flat]) ?_)
            | (with_reducible refine HCallP_mono (c2) ?_; rintro _ _ _ ⟨rfl, rfl, rfl⟩)
            | (with_reducible refine HCall_mono (c3) ?_; rintro rs rfl)
            | (with_reducible refine HCallF_mono (c3) (by first | rfl | simp [flatR, RV.flat, RV.isD, Ty.flat]) ?_)
            | (with_reducible refine HCallP_mono (c3) ?_; rintro _ _ _ ⟨rfl, rfl, rfl⟩)
            | (with_reducible refine HCall_mono (c4) ?_; rintro rs rfl)
            | (with_reducible refine HCallF_mono (c4) (by first | rfl | simp [flatR, RV.flat, RV.isD, Ty.flat]) ?_)
            | (with_reducible refine HCallP_mono (c4) ?_; rintro _ _ _ ⟨rfl, rfl, rfl⟩)
            | (with_reducible refine HCall_mono (c5) ?_; rintro rs rfl)
            | (with_reducible refine HCallF_mono (c5) (by first | rfl | simp [flatR, RV.flat, RV.isD, Ty.flat]) ?_)
            | (with_reducible refine HCallP_mono (c5) ?_; rintro _ _ _ ⟨rfl, rfl, rfl⟩)
            | with_reducible exact True.intro
            | (refine And.intro (by omega) ?_)
            | (simp -dsimp -implicitDefEqProofs (disch := omega) only [↓reduceIte, ↓gA, gB, refs, den, hasTy, Ty.cmp, Ty.depth, reduceCtorEq, Nat.reduceAdd, Nat.reduceSub, Nat.reduceMul, Nat.reduceEqDiff, Nat.reduceLT, Nat.reduceLeDiff, Nat.reduceMod, Nat.reduceDiv, Nat.reducePow, Nat.reduceBEq, Int.reduceToNat, Int.reduceLE, Int.reduceLT, Int.reduceEq, Int.reduceAdd, Int.reduceMul, Int.reduceSub, Int.reduceNeg, Int.reduceNe, Tryd.TS, Tryd.EV, dq])
            | decide)
  rcases key with ⟨_, k1, k2⟩ | ⟨k1, k2, k3⟩ | ⟨k1, k2, k3, k4, k5⟩
  · rw [k1, k2]
    repeat' (first
              | with_reducible exact True.intro
              | (refine And.intro (by omega) ?_)
              | (simp -dsimp -implicitDefEqProofs (disch := omega) only [↓reduceIte, ↓gA, gB, refs, den, hasTy, Ty.cmp, Ty.depth, reduceCtorEq, Nat.reduceAdd, Nat.reduceSub, Nat.reduceMul, Nat.reduceEqDiff, Nat.reduceLT, Nat.reduceLeDiff, Nat.reduceMod, Nat.reduceDiv, Nat.reducePow, Nat.reduceBEq, Int.reduceToNat, Int.reduceLE, Int.reduceLT, Int.reduceEq, Int.reduceAdd, Int.reduceMul, Int.reduceSub, Int.reduceNeg, Int.reduceNe, Tryd.TS, Tryd.EV, dq])
              | decide)
  · rw [k1, k2] at *
    rw [k3] at c6
    repeat' (first
              | (with_reducible refine HCall_mono (c6) ?_; rintro rs rfl)
              | (with_reducible refine HCallF_mono (c6) (by first | rfl | simp [flatR, RV.flat, RV.isD, Ty.flat]) ?_)
              | (with_reducible refine HCallP_mono (c6) ?_; rintro _ _ _ ⟨rfl, rfl, rfl⟩)
              | with_reducible exact True.intro
              | (refine And.intro (by omega) ?_)
              | (simp -dsimp -implicitDefEqProofs (disch := omega) only [↓reduceIte, ↓gA, gB, refs, den, hasTy, Ty.cmp, Ty.depth, reduceCtorEq, Nat.reduceAdd, Nat.reduceSub, Nat.reduceMul, Nat.reduceEqDiff, Nat.reduceLT, Nat.reduceLeDiff, Nat.reduceMod, Nat.reduceDiv, Nat.reducePow, Nat.reduceBEq, Int.reduceToNat, Int.reduceLE, Int.reduceLT, Int.reduceEq, Int.reduceAdd, Int.reduceMul, Int.reduceSub, Int.reduceNeg, Int.reduceNe, Tryd.TS, Tryd.EV, dq])
              | decide)
  · rw [k1, k2] at *
    rw [k3] at c6
    rw [k4] at c7
    rw [k5] at c6
    repeat' (first
              | (with_reducible refine HCall_mono (c6) ?_; rintro rs rfl)
              | (with_reducible refine HCallF_mono (c6) (by first | rfl | simp [flatR, RV.flat, RV.isD, Ty.flat]) ?_)
              | (with_reducible refine HCallP_mono (c6) ?_; rintro _ _ _ ⟨rfl, rfl, rfl⟩)
              | (with_reducible refine HCall_mono (c7) ?_; rintro rs rfl)
              | (with_reducible refine HCallF_mono (c7) (by first | rfl | simp [flatR, RV.flat, RV.isD, Ty.flat]) ?_)
              | (with_reducible refine HCallP_mono (c7) ?_; rintro _ _ _ ⟨rfl, rfl, rfl⟩)
              | with_reducible exact True.intro
              | (refine And.intro (by omega) ?_)
              | (simp -dsimp -implicitDefEqProofs (disch := omega) only [↓reduceIte, ↓gA, gB, refs, den, hasTy, Ty.cmp, Ty.depth, reduceCtorEq, Nat.reduceAdd, Nat.reduceSub, Nat.reduceMul, Nat.reduceEqDiff, Nat.reduceLT, Nat.reduceLeDiff, Nat.reduceMod, Nat.reduceDiv, Nat.reducePow, Nat.reduceBEq, Int.reduceToNat, Int.reduceLE, Int.reduceLT, Int.reduceEq, Int.reduceAdd, Int.reduceMul, Int.reduceSub, Int.reduceNeg, Int.reduceNe, Tryd.TS, Tryd.EV, dq])
              | decide)

set_option maxHeartbeats 4000000 in
set_option maxRecDepth 100000 in
theorem signTwice (d t m : List D) (q : Nat) (hd : BY d) (hdl : d.length = 32) (ht : BY t) (htl : t.length = 32) (hm : BY m) (hml : m.length = 32) (hq : q = 57896044618658097711785492504343953926634992332820282019728792003956564801911) :
    SCall Tryd.prog 7 [(.arr 32 (.int .u8), .l d), (.arr 32 (.int .u8), .l t), (.arr 32 (.int .u8), .l m)] (fun rs => rs = [.d .bool (.b true)]) := by
  have c0 := gscalarRef d hd hdl
  have hsQ : fb d % 57896044618658097711785492504343953926634992332820282019728792003956564801911 < 115792089237316195423570985008687907853269984665640564039457584007913129639936 := Nat.lt_trans (Nat.mod_lt _ (by omega)) (by omega)
  generalize fb d % 57896044618658097711785492504343953926634992332820282019728792003956564801911 = x at *
  have c1 := spublic x hsQ
  have c2 := stweakSecret x t hsQ ht htl
  have lP := pubN_lt x
  have c3 := stweak (pubN x) q t lP ht htl hq
  have lT := tsN_lt x t
  have c4 := ssign (tsN x t) m lT hm hml
  have key : ¬ pubE x = 0 ∨ (pubE x = 0 ∧ ¬ tsE x t = 0) ∨ (pubE x = 0 ∧ tsE x t = 0 ∧ twE q (pubN x) t = 0 ∧ secB (tsN x t) = true ∧ twN q (pubN x) t = pubN (tsN x t)) := by
    rcases hs : secB x with _ | _
    · left
      unfold pubE
      rw [hs]
      decide
    · right
      have hv := val_pub hq hs
      have hP : pubN x = 4 ^ x % 115792089237316195423570985008687907853269984665640564039457584007913129603823 := by unfold pubN; rw [hs]; rfl
      have hE : pubE x = 0 := by unfold pubE; rw [hs]; rfl
      have hw : twP (pubN x) t = 4 ^ tsV x t % 115792089237316195423570985008687907853269984665640564039457584007913129603823 := by
        unfold twP tsV
        rw [hP, p4_mul, ← p4_mod hq, hq]
      have l4 := tsV_lt x t
      unfold tsE twE
      rw [hs, hv, hE, hw]
      by_cases h0 : tsV x t = 0
      · left
        rw [h0]
        exact ⟨rfl, by decide⟩
      · right
        have hsv : secB (tsV x t) = true := by
          unfold secB
          rw [decide_eq_true h0, decide_eq_true l4]
          rfl
        have hN : tsN x t = tsV x t := by unfold tsN; rw [hs]; rfl
        have h1 := p4_one (s := tsV x t) (by omega) l4
        rw [hN]
        refine ⟨rfl, by rw [if_pos rfl, if_neg h0], by rw [if_pos rfl, if_neg h1], hsv, ?_⟩
        unfold twN
        rw [hv, hw, if_pos rfl, if_neg h1]
        unfold pubN
        rw [hsv]
        rfl
  rcases key with k1 | ⟨k1, k2⟩ | ⟨k1, k2, k3, k4, k5⟩
  · generalize pubE x = e5 at *
    refine scall_intro (n := 64) (rl := [.tmp 6]) (us := [4]) Tryd.hT Tryd.func7 rfl rfl rfl rfl rfl (Nat.le_of_ble_eq_true rfl) ?_
    intro w0 hL0
    repeat' (first
              | (with_reducible refine HCall_mono (c0) ?_; rintro rs rfl)
              | (with_reducible refine HCallF_mono (c0) (by first | rfl | simp [flatR, RV.flat, RV.isD, Ty.flat]) ?_)
              | (with_reducible refine HCallP_mono (c0) ?_; rintro _ _ _ ⟨rfl, rfl, rfl⟩)
              | (with_reducible refine HCall_mono (c1) ?_; rintro rs rfl)
              | (with_reducible refine HCallF_mono (c1) (by first | rfl | simp [flatR, RV.flat, RV.isD, Ty.flat]) ?_)
              | (with_reducible refine HCallP_mono (c1) ?_; rintro _ _ _ ⟨rfl, rfl, rfl⟩)
              | (with_reducible refine HCall_mono (c2) ?_; rintro rs rfl)
              | (with_reducible refine HCallF_mono (c2) (by first | rfl | simp [flatR, RV.flat, RV.isD, Ty.flat]) ?_)
              | (with_reducible refine HCallP_mono (c2) ?_; rintro _ _ _ ⟨rfl, rfl, rfl⟩)
              | (with_reducible refine HCall_mono (gsane6 q hq) ?_; rintro rs rfl)
              | (with_reducible refine HCallF_mono (gsane6 q hq) (by first | rfl | simp [flatR, RV.flat, RV.isD, Ty.flat]) ?_)
              | (with_reducible refine HCallP_mono (gsane6 q hq) ?_; rintro _ _ _ ⟨rfl, rfl, rfl⟩)
              | with_reducible exact True.intro
              | (refine And.intro (by omega) ?_)
              | (simp -dsimp -implicitDefEqProofs (disch := omega) only [↓reduceIte, ↓gA, gB, refs, den, hasTy, Ty.cmp, Ty.depth, reduceCtorEq, Nat.reduceAdd, Nat.reduceSub, Nat.reduceMul, Nat.reduceEqDiff, Nat.reduceLT, Nat.reduceLeDiff, Nat.reduceMod, Nat.reduceDiv, Nat.reducePow, Nat.reduceBEq, Int.reduceToNat, Int.reduceLE, Int.reduceLT, Int.reduceEq, Int.reduceAdd, Int.reduceMul, Int.reduceSub, Int.reduceNeg, Int.reduceNe, Tryd.TS, Tryd.EV, rep4, k1])
              | decide)
  · generalize pubE x = e5 at *
    generalize tsE x t = e4 at *
    refine scall_intro (n := 64) (rl := [.tmp 6]) (us := [4]) Tryd.hT Tryd.func7 rfl rfl rfl rfl rfl (Nat.le_of_ble_eq_true rfl) ?_
    intro w0 hL0
    repeat' (first
              | (with_reducible refine HCall_mono (c0) ?_; rintro rs rfl)
              | (with_reducible refine HCallF_mono (c0) (by first | rfl | simp [flatR, RV.flat, RV.isD, Ty.flat]) ?_)
              | (with_reducible refine HCallP_mono (c0) ?_; rintro _ _ _ ⟨rfl, rfl, rfl⟩)
              | (with_reducible refine HCall_mono (c1) ?_; rintro rs rfl)
              | (with_reducible refine HCallF_mono (c1) (by first | rfl | simp [flatR, RV.flat, RV.isD, Ty.flat]) ?_)
              | (with_reducible refine HCallP_mono (c1) ?_; rintro _ _ _ ⟨rfl, rfl, rfl⟩)
              | (with_reducible refine HCall_mono (c2) ?_; rintro rs rfl)
              | (with_reducible refine HCallF_mono (c2) (by first | rfl | simp [flatR, RV.flat, RV.isD, Ty.flat]) ?_)
              | (with_reducible refine HCallP_mono (c2) ?_; rintro _ _ _ ⟨rfl, rfl, rfl⟩)
              | (with_reducible refine HCall_mono (gsane6 q hq) ?_; rintro rs rfl)
              | (with_reducible refine HCallF_mono (gsane6 q hq) (by first | rfl | simp [flatR, RV.flat, RV.isD, Ty.flat]) ?_)
              | (with_reducible refine HCallP_mono (gsane6 q hq) ?_; rintro _ _ _ ⟨rfl, rfl, rfl⟩)
              | with_reducible exact True.intro
              | (refine And.intro (by omega) ?_)
              | (simp -dsimp -implicitDefEqProofs (disch := omega) only [↓reduceIte, ↓gA, gB, refs, den, hasTy, Ty.cmp, Ty.depth, reduceCtorEq, Nat.reduceAdd, Nat.reduceSub, Nat.reduceMul, Nat.reduceEqDiff, Nat.reduceLT, Nat.reduceLeDiff, Nat.reduceMod, Nat.reduceDiv, Nat.reducePow, Nat.reduceBEq, Int.reduceToNat, Int.reduceLE, Int.reduceLT, Int.reduceEq, Int.reduceAdd, Int.reduceMul, Int.reduceSub, Int.reduceNeg, Int.reduceNe, Tryd.TS, Tryd.EV, rep4, k1, k2])
              | decide)
  · have hver := ver_sig m hq k4
    rw [k4, if_pos rfl, show pubE (tsN x t) = 0 by unfold pubE; rw [k4]; rfl] at c4
    have hC : sigC (tsN x t) m < 115792089237316195423570985008687907853269984665640564039457584007913129639936 := Nat.lt_trans (sigC_lt (tsN x t) m) (by omega)
    have hR : sigR (tsN x t) m < 115792089237316195423570985008687907853269984665640564039457584007913129639936 := Nat.lt_trans (sigR_lt (tsN x t) m) (by omega)
    have c5 := sverify (pubN (tsN x t)) q (sigC (tsN x t) m) (sigR (tsN x t) m) m (pubN_lt _) hC hR hm hml hq
    rw [hver] at c5
    rw [k3, k5] at c3
    clear k4 hver
    generalize sigC (tsN x t) m = cc at *
    generalize sigR (tsN x t) m = zz at *
    generalize pubN (tsN x t) = n3 at *
    generalize tsN x t = n4 at *
    generalize pubE x = e5 at *
    generalize tsE x t = e4 at *
    refine scall_intro (n := 64) (rl := [.tmp 6]) (us := [4]) Tryd.hT Tryd.func7 rfl rfl rfl rfl rfl (Nat.le_of_ble_eq_true rfl) ?_
    intro w0 hL0
    repeat' (first
              | (with_reducible refine HCall_mono (c0) ?_; rintro rs rfl)
              | (with_reducible refine HCallF_mono (c0) (by first | rfl | simp [flatR, RV.flat, RV.isD, Ty.flat]) ?_)
              | (with_reducible refine HCallP_mono (c0) ?_; rintro _ _ _ ⟨rfl, rfl, rfl⟩)
              | (with_reducible refine HCall_mono (c1) ?_; rintro rs rfl)
              | (with_reducible refine HCallF_mono (c1) (by first | rfl | simp [flatR, RV.flat, RV.isD, Ty.flat]) ?_)
              | (with_reducible refine HCallP_mono (c1) ?_; rintro _ _ _ ⟨rfl, rfl, rfl⟩)
              | (with_reducible refine HCall_mono (c2) ?_; rintro rs rfl)
              | (with_reducible refine HCallF_mono (c2) (by first | rfl | simp [flatR, RV.flat, RV.isD, Ty.flat]) ?_)
              | (with_reducible refine HCallP_mono (c2) ?_; rintro _ _ _ ⟨rfl, rfl, rfl⟩)
              | (with_reducible refine HCall_mono (c3) ?_; rintro rs rfl)
              | (with_reducible refine HCallF_mono (c3) (by first | rfl | simp [flatR, RV.flat, RV.isD, Ty.flat]) ?_)
              | (with_reducible refine HCallP_mono (c3) ?_; rintro _ _ _ ⟨rfl, rfl, rfl⟩)
              | (with_reducible refine HCall_mono (c4) ?_; rintro rs rfl)
              | (with_reducible refine HCallF_mono (c4) (by first | rfl | simp [flatR, RV.flat, RV.isD, Ty.flat]) ?_)
              | (with_reducible refine HCallP_mono (c4) ?_; rintro _ _ _ ⟨rfl, rfl, rfl⟩)
              | (with_reducible refine HCall_mono (c5) ?_; rintro rs rfl)
              | (with_reducible refine HCallF_mono (c5) (by first | rfl | simp [flatR, RV.flat, RV.isD, Ty.flat]) ?_)
              | (with_reducible refine HCallP_mono (c5) ?_; rintro _ _ _ ⟨rfl, rfl, rfl⟩)
              | (with_reducible refine HCall_mono (gsane6 q hq) ?_; rintro rs rfl)
              | (with_reducible refine HCallF_mono (gsane6 q hq) (by first | rfl | simp [flatR, RV.flat, RV.isD, Ty.flat]) ?_)
              | (with_reducible refine HCallP_mono (gsane6 q hq) ?_; rintro _ _ _ ⟨rfl, rfl, rfl⟩)
              | with_reducible exact True.intro
              | (refine And.intro (by omega) ?_)
              | (simp -dsimp -implicitDefEqProofs (disch := omega) only [↓reduceIte, ↓gA, gB, refs, den, hasTy, Ty.cmp, Ty.depth, reduceCtorEq, Nat.reduceAdd, Nat.reduceSub, Nat.reduceMul, Nat.reduceEqDiff, Nat.reduceLT, Nat.reduceLeDiff, Nat.reduceMod, Nat.reduceDiv, Nat.reducePow, Nat.reduceBEq, Int.reduceToNat, Int.reduceLE, Int.reduceLT, Int.reduceEq, Int.reduceAdd, Int.reduceMul, Int.reduceSub, Int.reduceNeg, Int.reduceNe, Tryd.TS, Tryd.EV, rep4, k1, k2])
              | decide)
end Go.Proofs
/- The tables that a row lists: what they read as. -/
namespace Go.Proofs
open Go.SE

theorem rdl_tab {w : World} {S : Nat → Prop} (k : IntKind) : ∀ zs : List Int, ReadL (Rd w S (.int k)) (Ty.int k).size (zs.map fun z => Value.int k z) (zs.map D.n)
  | [] => rfl
  | z :: zs => ⟨⟨z, rfl, rfl⟩, rdl_tab k zs⟩
theorem cells_tab {P : Program} {W : World} {name : String} {k : IntKind} {zs : List Int} {g : Nat} (hg : P.globalNamed name = some g) (h : Lib.TabIs P W name k zs) :
    ∃ el fr, W.heap[g]? = some (.cells (zs.map fun z => Value.int k z).toArray el fr) := by
  unfold Lib.TabIs World.var? at h
  rw [hg] at h
  simp only [Option.bind_some] at h
  split at h
  · rename_i cs el fr hh
    cases h
    exact ⟨el, fr, hh⟩
  · cases h
theorem gok_one {W : World} {g : Nat} {k : IntKind} {zs : List Int} {el : TypeId} {fr : Nat × Nat} (h : W.heap[g]? = some (.cells (zs.map fun z => Value.int k z).toArray el fr)) :
    ∃ c el fr, W.heap[g]? = some (.cells c el fr) ∧ 0 + (Ty.arr zs.length (.int k)).size ≤ c.size ∧ Rd W (fun b => ¬ (fun _ : Nat => False) b) (.arr zs.length (.int k)) ((c.toList.drop 0).take (Ty.arr zs.length (.int k)).size) (il zs) := by
  refine ⟨_, _, _, h, by simp [Ty.size], ?_⟩
  have e : ((zs.map fun z => Value.int k z).toArray.toList.drop 0).take (Ty.arr zs.length (.int k)).size = zs.map fun z => Value.int k z := by
    simp only [List.drop_zero]
    exact List.take_of_length_le (by simp [Ty.size])
  rw [e]
  exact ⟨zs.map D.n, rfl, by simp, rdl_tab k zs⟩
theorem tab_vars {P : Program} {W : World} {name : String} {k : IntKind} {zs : List Int} {rest : List (String × DataW Unit)} {ps : List MemPlace} {g : Nat} {t e : TypeId} {n : Nat}
    (hg : P.globalNamed name = some g) (hty : (P.globals[g]?).map (·.type) = some t) (ht : P.underlying t = some (.array n e)) (he : P.underlying e = some (.int k)) (hce : P.cellsOf e = 1) (hct : P.cellsOf t = n)
    (h : DataW.LaidVars P W ((name, Lib.tabData k zs) :: rest) ps) : Lib.TabIs P W name k zs ∧ ∃ q, DataW.LaidVars P W rest q := by
  obtain ⟨g', t', cs, fuel, p, q, hg', ht', hvar, hd, hr, _⟩ := h
  obtain rfl := Option.some.inj (hg.symm.trans hg')
  obtain rfl := Option.some.inj (hty.symm.trans ht')
  refine ⟨?_, q, hr⟩
  unfold Lib.TabIs
  rw [hvar, ← Lib.cells_of_tab ht he hce hct hd]

theorem gok {W : World} (h : laidMetH Tryd.prog [("lightclient/sha.constants", YtmafojaagmneoaaDoor.Rows.laid_lightclient_sha_constants), ("lightclient/sha.initial", YtmafojaagmneoaaDoor.Rows.laid_lightclient_sha_initial)] W) : GOk W (fun _ => False) := by
  have h1 : laidMet Tryd.prog [("lightclient/sha.constants", Lib.tabData .u32 kons), ("lightclient/sha.initial", Lib.tabData .u32 inits)] W := h
  obtain ⟨ps, hv, _⟩ := h1
  obtain ⟨t1, q, hv2⟩ := tab_vars (g := 1) (t := 124) (e := 22) (n := 64) (by kernel_rfl) (by kernel_rfl) (by kernel_rfl) (by kernel_rfl) (by kernel_rfl) (by kernel_rfl) hv
  obtain ⟨t2, _, _⟩ := tab_vars (g := 0) (t := 109) (e := 22) (n := 8) (by kernel_rfl) (by kernel_rfl) (by kernel_rfl) (by kernel_rfl) (by kernel_rfl) (by kernel_rfl) hv2
  obtain ⟨e1, f1, b1⟩ := cells_tab (g := 1) (by kernel_rfl) t1
  obtain ⟨e2, f2, b2⟩ := cells_tab (g := 0) (by kernel_rfl) t2
  have k1 := gok_one b1
  have k2 := gok_one b2
  intro g t x hg
  by_cases h0 : 0 = g
  · subst h0
    have e : Go.SE.look gtab 0 = some (.arr 8 (.int .u32), gdat0) := rfl
    rw [e] at hg
    cases hg
    exact ⟨fun k => k, k2⟩
  by_cases h1 : 1 = g
  · subst h1
    have e : Go.SE.look gtab 1 = some (.arr 64 (.int .u32), gdat1) := rfl
    rw [e] at hg
    cases hg
    exact ⟨fun k => k, k1⟩
  · unfold gtab at hg
    simp only [Go.SE.look, if_neg h0, if_neg h1] at hg
    exact absurd hg (by simp)
end Go.Proofs
/- What every law of the seat needs. -/
namespace Go.Proofs
open Go.SE Go.ChangeShapes Go.RowKit
theorem Tryd.own : ownKnob Tryd.prog.godebug = none := by kernel_rfl
theorem Tryd.laidOut : laidOutB Tryd.prog = true := by kernel_rfl
end Go.Proofs
