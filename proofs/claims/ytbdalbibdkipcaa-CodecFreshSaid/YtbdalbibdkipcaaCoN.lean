/- What is appended is read back. -/
import Derived.Test.YtbdalbibdkipcaaCoM
set_option linter.unusedVariables false
set_option linter.unusedSimpArgs false
set_option linter.constructorNameAsVariable false
namespace Go.Proofs
open Go.SE

theorem byt_right (pre l : List D) (i : Nat) : byt (pre ++ l) (pre.length + i) = byt l i := by
  unfold byt
  rw [List.getD_eq_getElem?_getD, List.getD_eq_getElem?_getD, List.getElem?_append_right (by omega), Nat.add_sub_cancel_left]
theorem byt_left (l post : List D) {i : Nat} (h : i < l.length) : byt (l ++ post) i = byt l i := by
  unfold byt
  rw [List.getD_eq_getElem?_getD, List.getD_eq_getElem?_getD, List.getElem?_append_left h]
theorem byt_le (x k i : Nat) (h : i < k) : byt (le x k) i = x / 256 ^ i % 256 := by
  unfold byt le
  rw [List.getD_eq_getElem?_getD, List.getElem?_map, List.getElem?_range h]
  rfl
theorem num_of (b : List D) : ∀ (k a x : Nat), (∀ i, i < k → byt b (a + i) = x / 256 ^ i % 256) → x < 256 ^ k → num b a k = x
  | 0, a, x, _, h => by simp at h; subst h; rfl
  | k + 1, a, x, hb, h => by
    rw [num, num_of b k (a + 1) (x / 256) (fun i hi => by
      have := hb (i + 1) (by omega)
      rw [show a + 1 + i = a + (i + 1) by omega, this, Nat.pow_succ', ← Nat.div_div_eq_div_mul]) (by rw [Nat.pow_succ] at h; omega)]
    have := hb 0 (by omega)
    simp at this
    rw [this]; omega
theorem getR_back (pre post : List D) (x k : Nat) (h : x < 256 ^ k) : getR (pre ++ (le x k ++ post)) pre.length k = (x, (pre.length : Int) + k, 0) := by
  unfold getR
  rw [if_neg (by simp; omega), if_neg (by simp [le_length]; omega)]
  rw [Int.toNat_natCast, num_of _ k pre.length x (fun i hi => by rw [byt_right, byt_left _ _ (by rw [le_length]; exact hi), byt_le _ _ _ hi]) h]
theorem getR_back1 (pre post : List D) (x : Nat) (h : x < 256) : getR (pre ++ (.n x :: post)) pre.length 1 = (x, (pre.length : Int) + 1, 0) := by
  have := getR_back pre post x 1 (by omega)
  rw [le_one h] at this
  exact this

theorem sizeR_back (pre post : List D) (n most : Nat) (h : n ≤ most) (h64 : n < 18446744073709551616) : sizeR (pre ++ (asz n ++ post)) pre.length most = (n, (pre.length : Int) + (asz n).length, 0) := by
  have big : ∀ (f k L : Nat), asz n = .n f :: le n k → f < 256 → n < 256 ^ k → L ≤ n → (f = 253 ∧ k = 2 ∧ L = 253 ∨ f = 254 ∧ k = 4 ∧ L = 65536 ∨ f = 255 ∧ k = 8 ∧ L = 4294967296) → sizeR (pre ++ (asz n ++ post)) pre.length most = (n, (pre.length : Int) + (asz n).length, 0) := by
    intro f k L ha hf hk hL hc
    have h1 := getR_back1 pre (le n k ++ post) f hf
    have h2 := getR_back (pre ++ [.n (f : Int)]) post n k hk
    rw [List.append_assoc, List.length_append, List.length_singleton] at h2
    simp only [List.cons_append, List.nil_append] at h2
    rw [ha]
    simp only [List.cons_append]
    unfold sizeR
    rw [h1]
    rw [show ((pre.length : Int) + 1) = ((pre.length + 1 : Nat) : Int) by omega]
    rcases hc with ⟨rfl, rfl, rfl⟩ | ⟨rfl, rfl, rfl⟩ | ⟨rfl, rfl, rfl⟩
    · simp only [ne_eq, not_true_eq_false, if_false, if_true, h2, fin]
      simp [show ¬ n < 253 by omega, show ¬ most < n by omega, le_length]
      try omega
    · simp only [ne_eq, not_true_eq_false, if_false, if_true, h2, fin]
      simp [show ¬ n < 65536 by omega, show ¬ most < n by omega, le_length]
      try omega
    · simp only [ne_eq, not_true_eq_false, if_false, if_true, h2, fin]
      simp [show ¬ n < 4294967296 by omega, show ¬ most < n by omega, le_length]
      try omega
  by_cases h1 : n < 253
  · have ha : asz n = [.n n] := by unfold asz; rw [if_pos h1, le_one (by omega)]
    have h2 := getR_back1 pre post n (by omega)
    rw [ha]
    simp only [List.cons_append, List.nil_append]
    unfold sizeR
    rw [h2]
    simp [fin, show ¬ n = 253 by omega, show ¬ n = 254 by omega, show ¬ n = 255 by omega, show ¬ most < n by omega]
  by_cases h2 : n < 65536
  · exact big 253 2 253 (by unfold asz; rw [if_neg h1, if_pos h2]; rfl) (by omega) (by omega) (by omega) (.inl ⟨rfl, rfl, rfl⟩)
  by_cases h3 : n < 4294967296
  · exact big 254 4 65536 (by unfold asz; rw [if_neg h1, if_neg h2, if_pos h3]; rfl) (by omega) (by omega) (by omega) (.inr (.inl ⟨rfl, rfl, rfl⟩))
  · exact big 255 8 4294967296 (by unfold asz; rw [if_neg h1, if_neg h2, if_neg h3]; rfl) (by omega) (by omega) (by omega) (.inr (.inr ⟨rfl, rfl, rfl⟩))

theorem bytesR_back (pre post s : List D) (hs : s.length < 18446744073709551616) : bytesR (pre ++ (asz s.length ++ (s ++ post))) pre.length s.length = (s, (pre.length : Int) + (asz s.length).length + s.length, 0) := by
  unfold bytesR
  rw [if_neg (by omega), Int.toNat_natCast, sizeR_back pre (s ++ post) s.length s.length (Nat.le_refl _) hs]
  simp only [ne_eq, not_true_eq_false, if_false]
  rw [if_neg (by simp; omega)]
  congr 1
  rw [show ((pre.length : Int) + ((asz s.length).length : Int)).toNat = (pre ++ asz s.length).length by simp; omega, ← List.append_assoc, List.drop_left, List.take_left]
theorem hashR_back (pre post h : List D) (hh : h.length = 32) : hashR (pre ++ (h ++ post)) pre.length = (h, (pre.length : Int) + 32, 0) := by
  unfold hashR
  rw [if_neg (by simp; omega), if_neg (by simp [hh]; omega), Int.toNat_natCast, List.drop_left, ← hh, List.take_left]
end Go.Proofs
