/- Squares modulo the prime. Plain arithmetic. -/
import Derived.Test.YtmafojaagmneoaaNtPrime
set_option linter.unusedVariables false
set_option linter.unusedSimpArgs false
set_option linter.constructorNameAsVariable false
namespace Go.Nt

theorem odd_pow {p c q : Nat} (hc : c < p) (h0 : 0 < c) (hq : q % 2 = 1) : ((p - c) ^ q + c ^ q) % p = 0 := by
  obtain ⟨k, rfl⟩ : ∃ k, q = 2 * k + 1 := ⟨q / 2, by omega⟩
  clear hq
  have hsq : (p - c) * (p - c) % p = c * c % p := by
    have e : (p - c) * (p - c) + p * (2 * c) = c * c + p * p := by
      obtain ⟨d, rfl⟩ : ∃ d, p = c + d := ⟨p - c, by omega⟩
      rw [Nat.add_sub_cancel_left]
      simp only [Nat.add_mul, Nat.mul_add, Nat.two_mul]
      have := Nat.mul_comm c d
      omega
    have h1 := congrArg (· % p) e
    simp only [Nat.add_mul_mod_self_left] at h1
    exact h1
  have hev : ((p - c) ^ (2 * k)) % p = c ^ (2 * k) % p := by
    rw [Nat.pow_mul, Nat.pow_mul, Nat.pow_mod, Nat.pow_mod (c ^ 2), Nat.pow_two, Nat.pow_two, hsq]
  rw [Nat.pow_succ, Nat.pow_succ, Nat.add_mod, Nat.mul_mod, hev, ← Nat.mul_mod, ← Nat.add_mod, ← Nat.mul_add, show p - c + c = p by omega, Nat.mul_mod_left]

/-- Of a number and its negative one alone has the power 1. -/
theorem one_of_two {p c q : Nat} (hp : Pr p) (h2 : p = 2 * q + 1) (hq : q % 2 = 1) (hc : c < p) (h0 : 0 < c) : decide ((p - c) ^ q % p = 1) = !decide (c ^ q % p = 1) := by
  have hp2 := hp.1
  have hnd : ¬ p ∣ c := fun h => by have := Nat.le_of_dvd h0 h; omega
  have hf := hp.fermat hnd
  rw [show p - 1 = q + q by omega, Nat.pow_add] at hf
  have ho := odd_pow hc h0 hq
  have hx : c ^ q % p < p := Nat.mod_lt _ (by omega)
  have hy : (p - c) ^ q % p < p := Nat.mod_lt _ (by omega)
  rw [Nat.add_mod] at ho
  rw [Nat.mul_mod] at hf
  generalize c ^ q % p = x at *
  generalize (p - c) ^ q % p = y at *
  have hxp : x = 1 ∨ x = p - 1 := by
    have h1 : p ∣ (x - 1) * (x + 1) := by
      have hx0 : 0 < x := by
        rcases Nat.eq_zero_or_pos x with e | e
        · subst e; simp at hf
        · exact e
      have e : (x - 1) * (x + 1) = x * x - 1 := by
        obtain ⟨z, rfl⟩ : ∃ z, x = z + 1 := ⟨x - 1, by omega⟩
        simp only [Nat.add_sub_cancel, Nat.mul_add, Nat.add_mul]
        omega
      rw [e]
      exact Nat.dvd_of_mod_eq_zero (Nat.sub_mod_eq_zero_of_mod_eq (by rw [hf, Nat.mod_eq_of_lt (by omega)]))
    rcases hp.dvd_mul h1 with h | h
    · left
      rcases Nat.eq_zero_or_pos (x - 1) with e | e
      · rcases Nat.eq_zero_or_pos x with e2 | e2
        · subst e2; simp at hf
        · omega
      · have := Nat.le_of_dvd e h; omega
    · right
      have := Nat.le_of_dvd (by omega) h
      omega
  have hsum : x + y = p ∨ x + y = 0 := by
    have h3 : (x + y) % p = 0 := by rw [Nat.add_comm]; exact ho
    rcases Nat.lt_or_ge (x + y) p with h | h
    · right; rw [Nat.mod_eq_of_lt h] at h3; exact h3
    · left; rw [Nat.mod_eq_sub_mod h, Nat.mod_eq_of_lt (by omega)] at h3; omega
  rw [← decide_not]
  refine decide_eq_decide.2 ?_
  rcases hxp with rfl | rfl <;> omega

/-- A square's power. -/
theorem square_pow {p a q : Nat} (hp : Pr p) (h2 : p = 2 * q + 1) (ha : ¬ p ∣ a) : (a * a % p) ^ q % p = 1 := by
  have hf := hp.fermat ha
  rw [← Nat.pow_mod, ← Nat.pow_two, ← Nat.pow_mul, ← show p - 1 = 2 * q by omega]
  exact hf
end Go.Nt
