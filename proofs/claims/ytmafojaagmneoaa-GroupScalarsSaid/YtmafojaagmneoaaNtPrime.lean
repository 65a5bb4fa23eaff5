/- Primes: Euclid's lemma, Fermat's little theorem, Pocklington's test, powers by squaring. Plain arithmetic. -/
import Derived.KernelRfl
set_option linter.unusedVariables false
set_option linter.unusedSimpArgs false
set_option linter.constructorNameAsVariable false
namespace Go.Nt

def Pr (p : Nat) : Prop := 2 ≤ p ∧ ∀ d, d ∣ p → d = 1 ∨ d = p

theorem Pr.coprime {p a : Nat} (hp : Pr p) (h : ¬ p ∣ a) : Nat.gcd p a = 1 := by
  rcases hp.2 _ (Nat.gcd_dvd_left p a) with e | e
  · exact e
  · exact absurd (e ▸ Nat.gcd_dvd_right p a) h

theorem Pr.dvd_mul {p a b : Nat} (hp : Pr p) (h : p ∣ a * b) : p ∣ a ∨ p ∣ b := by
  by_cases ha : p ∣ a
  · exact .inl ha
  · exact .inr ((show Nat.Coprime p a from hp.coprime ha).dvd_of_dvd_mul_left h)

theorem Pr.dvd_pow {p a : Nat} (hp : Pr p) : ∀ {n : Nat}, p ∣ a ^ n → p ∣ a
  | 0, h => by
    have := Nat.le_of_dvd (by simp) h
    have := hp.1
    simp at *; omega
  | n + 1, h => by
    rw [Nat.pow_succ] at h
    rcases hp.dvd_mul h with k | k
    · exact hp.dvd_pow k
    · exact k

/-! binomials -/
def ch : Nat → Nat → Nat
  | _, 0 => 1
  | 0, _ + 1 => 0
  | n + 1, k + 1 => ch n k + ch n (k + 1)

theorem ch_zero (n : Nat) : ch n 0 = 1 := by cases n <;> rfl
theorem ch_gt : ∀ {n k : Nat}, n < k → ch n k = 0
  | 0, 0, h => by omega
  | 0, k + 1, _ => rfl
  | n + 1, 0, h => by omega
  | n + 1, k + 1, h => by rw [ch, ch_gt (by omega), ch_gt (by omega)]
theorem ch_self : ∀ n, ch n n = 1
  | 0 => rfl
  | n + 1 => by rw [ch, ch_self n, ch_gt (by omega)]
theorem ch_absorb : ∀ (n k : Nat), (k + 1) * ch (n + 1) (k + 1) = (n + 1) * ch n k
  | 0, 0 => rfl
  | 0, k + 1 => by simp [ch]
  | n + 1, 0 => by
    have h := ch_absorb n 0
    have e : ch (n + 1 + 1) (0 + 1) = ch (n + 1) 0 + ch (n + 1) (0 + 1) := rfl
    rw [e]
    rw [ch_zero] at *
    simp only [Nat.zero_add, Nat.one_mul, Nat.mul_one] at *
    rw [h]; omega
  | n + 1, k + 1 => by
    have h1 := ch_absorb n k
    have h2 := ch_absorb n (k + 1)
    have e : ch (n + 1 + 1) (k + 1 + 1) = ch (n + 1) (k + 1) + ch (n + 1) (k + 1 + 1) := rfl
    have e2 : ch (n + 1) (k + 1) = ch n k + ch n (k + 1) := rfl
    rw [e, Nat.mul_add, h2]
    have : (k + 1 + 1) * ch (n + 1) (k + 1) = (n + 1) * ch n k + ch (n + 1) (k + 1) := by rw [Nat.add_mul, h1, Nat.one_mul]
    rw [this]
    calc (n + 1) * ch n k + ch (n + 1) (k + 1) + (n + 1) * ch n (k + 1) = (n + 1) * (ch n k + ch n (k + 1)) + ch (n + 1) (k + 1) := by rw [Nat.mul_add]; omega
      _ = (n + 1 + 1) * ch (n + 1) (k + 1) := by rw [← e2, Nat.add_mul (n + 1) 1, Nat.one_mul]

def bs (a n : Nat) : Nat → Nat
  | 0 => 0
  | m + 1 => bs a n m + ch n m * a ^ m

theorem bs_step (a n : Nat) : ∀ m, bs a (n + 1) (m + 1) = bs a n (m + 1) + a * bs a n m
  | 0 => by simp [bs, ch_zero]
  | m + 1 => by
    have h := bs_step a n m
    rw [bs, h]
    have e : ch (n + 1) (m + 1) = ch n m + ch n (m + 1) := rfl
    rw [e, bs, bs, bs, Nat.pow_succ]
    simp only [Nat.mul_add, Nat.add_mul]
    have : a * (ch n m * a ^ m) = ch n m * (a ^ m * a) := by rw [Nat.mul_left_comm, Nat.mul_comm a]
    rw [this]
    omega

theorem bs_full (a : Nat) : ∀ n, bs a n (n + 1) = (1 + a) ^ n
  | 0 => by simp [bs, ch]
  | n + 1 => by
    rw [bs_step, bs, ch_gt (Nat.lt_succ_self n), Nat.zero_mul, Nat.add_zero, bs_full a n, Nat.pow_succ, Nat.mul_add, Nat.mul_one, Nat.mul_comm a]

theorem Pr.dvd_ch {p k : Nat} (hp : Pr p) (h0 : 0 < k) (h1 : k < p) : p ∣ ch p k := by
  obtain ⟨k, rfl⟩ : ∃ j, k = j + 1 := ⟨k - 1, by omega⟩
  obtain ⟨n, rfl⟩ : ∃ n, p = n + 1 := ⟨p - 1, by omega⟩
  have h := ch_absorb n k
  rcases hp.dvd_mul (show n + 1 ∣ (k + 1) * ch (n + 1) (k + 1) from ⟨_, h⟩) with d | d
  · have := Nat.le_of_dvd (by omega) d
    omega
  · exact d

theorem Pr.bs {p : Nat} (hp : Pr p) (a : Nat) : ∀ m, m + 1 ≤ p → bs a p (m + 1) % p = 1 % p
  | 0, _ => by simp [Nt.bs, ch_zero]
  | m + 1, h => by
    have ih := hp.bs a m (by omega)
    rw [Nt.bs, Nat.add_mod, ih]
    have : ch p (m + 1) * a ^ (m + 1) % p = 0 := Nat.mod_eq_zero_of_dvd (Nat.dvd_trans (hp.dvd_ch (by omega) (by omega)) (Nat.dvd_mul_right _ _))
    rw [this]
    simp

theorem Pr.frob {p : Nat} (hp : Pr p) (a : Nat) : (1 + a) ^ p % p = (1 + a ^ p) % p := by
  rw [← bs_full, Nt.bs, ch_self, Nat.one_mul]
  obtain ⟨n, e⟩ : ∃ n, p = n + 1 := ⟨p - 1, by have := hp.1; omega⟩
  have := hp.bs a n (by omega)
  rw [← e] at this
  rw [Nat.add_mod, this, ← Nat.add_mod]

theorem Pr.fermat' {p : Nat} (hp : Pr p) : ∀ a, a ^ p % p = a % p
  | 0 => by
    have := hp.1
    rw [Nat.zero_pow (by omega)]
  | a + 1 => by
    rw [Nat.add_comm a 1, hp.frob, Nat.add_mod, hp.fermat' a, ← Nat.add_mod]

theorem Pr.fermat {p a : Nat} (hp : Pr p) (h : ¬ p ∣ a) : a ^ (p - 1) % p = 1 := by
  have h2 := hp.1
  have h1 := hp.fermat' a
  have ha : 0 < a := by
    rcases Nat.eq_zero_or_pos a with e | e
    · subst e; exact absurd (Nat.dvd_zero p) h
    · exact e
  have e : a ^ p = a * a ^ (p - 1) := by
    rw [Nat.mul_comm, ← Nat.pow_succ]; congr 1; omega
  have hle : 1 ≤ a ^ (p - 1) := Nat.pow_pos ha
  have hd : p ∣ a * (a ^ (p - 1) - 1) := by
    rw [Nat.mul_sub, Nat.mul_one, ← e]
    exact Nat.dvd_of_mod_eq_zero (Nat.sub_mod_eq_zero_of_mod_eq h1)
  rcases hp.dvd_mul hd with k | k
  · exact absurd k h
  · obtain ⟨c, hc⟩ := k
    have : a ^ (p - 1) = 1 + p * c := by omega
    rw [this, Nat.add_mul_mod_self_left, Nat.mod_eq_of_lt (by omega)]

theorem exists_prime : ∀ n, 2 ≤ n → ∃ p, Pr p ∧ p ∣ n := by
  intro n
  induction n using Nat.strongRecOn with
  | ind n ih =>
    intro h
    by_cases hp : Pr n
    · exact ⟨n, hp, Nat.dvd_refl n⟩
    · have : ∃ d, d ∣ n ∧ d ≠ 1 ∧ d ≠ n := by
        apply Classical.byContradiction
        intro hc
        exact hp ⟨h, fun d hd => by
          by_cases h1 : d = 1
          · exact .inl h1
          · by_cases h2 : d = n
            · exact .inr h2
            · exact absurd ⟨d, hd, h1, h2⟩ hc⟩
      obtain ⟨d, hd, h1, h2⟩ := this
      have hle := Nat.le_of_dvd (by omega) hd
      have h0 : d ≠ 0 := by
        rintro rfl
        have := Nat.eq_zero_of_zero_dvd hd
        omega
      obtain ⟨p, hp, hq⟩ := ih d (by omega) (by omega)
      exact ⟨p, hp, Nat.dvd_trans hq hd⟩

theorem pow_gcd {d a : Nat} : ∀ (x y : Nat), a ^ x % d = 1 % d → a ^ y % d = 1 % d → a ^ (Nat.gcd x y) % d = 1 % d := by
  intro x y
  induction x, y using Nat.gcd.induction with
  | H0 n => intro _ h; rw [Nat.gcd_zero_left]; exact h
  | H1 m n hm ih =>
    intro h1 h2
    rw [Nat.gcd_rec]
    refine ih ?_ h1
    have e : a ^ n = (a ^ m) ^ (n / m) * a ^ (n % m) := by rw [← Nat.pow_mul, ← Nat.pow_add, Nat.div_add_mod]
    rw [e, Nat.mul_mod, Nat.pow_mod, h1, ← Nat.pow_mod, Nat.one_pow, ← Nat.mul_mod, Nat.one_mul] at h2
    exact h2

/-- Pocklington's test with one prime factor that is greater than the root. -/
theorem pock {N F R a : Nat} (hF : Pr F) (hN : N = F * R + 1) (hR : 0 < R) (hs : N ≤ F * F) (h1 : a ^ (F * R) % N = 1) (h2 : Nat.gcd (a ^ R % N + (N - 1)) N = 1) : Pr N := by
  have hFp := hF.1
  have hNp : 2 ≤ N := by have := Nat.mul_pos (show 0 < F by omega) hR; omega
  have key : ∀ d, Pr d → d ∣ N → F < d := by
    intro d hd hdN
    have hd2 := hd.1
    have hda : ¬ d ∣ a := by
      intro k
      have : d ∣ a ^ (F * R) := by
        have : a ^ (F * R) = a * a ^ (F * R - 1) := by
          rw [Nat.mul_comm a, ← Nat.pow_succ]; congr 1
          have := Nat.mul_pos (show 0 < F by omega) hR; omega
        rw [this]; exact Nat.dvd_trans k (Nat.dvd_mul_right _ _)
      have h3 := Nat.mod_eq_zero_of_dvd this
      have h4 := Nat.mod_mod_of_dvd (a ^ (F * R)) hdN
      rw [h1, h3, Nat.mod_eq_of_lt (by omega)] at h4
      omega
    have f1 : a ^ (F * R) % d = 1 % d := by rw [← Nat.mod_mod_of_dvd (a ^ (F * R)) hdN, h1]
    have f2 : a ^ (d - 1) % d = 1 % d := by rw [hd.fermat hda, Nat.mod_eq_of_lt (by omega)]
    have hdiv : F ∣ d - 1 := by
      apply Classical.byContradiction
      intro hc
      have hco : Nat.gcd F (d - 1) = 1 := hF.coprime hc
      have hg : Nat.gcd (F * R) (d - 1) = Nat.gcd R (d - 1) := Nat.Coprime.gcd_mul_left_cancel R hco
      have h3 := pow_gcd _ _ f1 f2
      rw [hg] at h3
      have h4 : a ^ R % d = 1 % d := by
        obtain ⟨c, hc⟩ := Nat.gcd_dvd_left R (d - 1)
        have : a ^ R = (a ^ Nat.gcd R (d - 1)) ^ c := by rw [← Nat.pow_mul, ← hc]
        rw [this, Nat.pow_mod, h3, ← Nat.pow_mod, Nat.one_pow]
      have h5 : d ∣ a ^ R % N + (N - 1) := by
        apply Nat.dvd_of_mod_eq_zero
        rw [Nat.add_mod, Nat.mod_mod_of_dvd _ hdN, h4, ← Nat.add_mod, show 1 + (N - 1) = N by omega]
        exact Nat.mod_eq_zero_of_dvd hdN
      have h6 := Nat.dvd_gcd h5 hdN
      rw [h2] at h6
      have := Nat.le_of_dvd (by omega) h6
      omega
    have := Nat.le_of_dvd (by omega) hdiv
    omega
  refine ⟨hNp, fun x hx => ?_⟩
  apply Classical.byContradiction
  intro hc
  have hx1 : x ≠ 1 := fun e => hc (.inl e)
  have hx2 : x ≠ N := fun e => hc (.inr e)
  obtain ⟨y, hy⟩ := hx
  have hx0 : x ≠ 0 := by rintro rfl; simp at hy; omega
  have hy0 : y ≠ 0 := by rintro rfl; simp at hy; omega
  have hy1 : y ≠ 1 := by rintro rfl; simp at hy; exact hx2 hy.symm
  obtain ⟨d, hd, hdx⟩ := exists_prime x (by omega)
  obtain ⟨e, he, hey⟩ := exists_prime y (by omega)
  have k1 := key d hd (Nat.dvd_trans hdx ⟨y, hy⟩)
  have k2 := key e he (Nat.dvd_trans hey ⟨x, by rw [hy, Nat.mul_comm]⟩)
  have l1 := Nat.le_of_dvd (by omega) hdx
  have l2 := Nat.le_of_dvd (by omega) hey
  have : F * F < x * y := Nat.mul_lt_mul'' (by omega) (by omega)
  omega

/-- A power by squaring: k bits of the exponent. -/
def pm (n : Nat) : Nat → Nat → Nat → Nat
  | 0, _, _ => 1
  | k + 1, a, e => if e % 2 = 1 then a * pm n k (a * a % n) (e / 2) % n else pm n k (a * a % n) (e / 2)

theorem pm_ok (n : Nat) : ∀ (k a e : Nat), e < 2 ^ k → pm n k a e % n = a ^ e % n
  | 0, a, e, h => by
    have : e = 0 := by simpa using h
    subst this; rfl
  | k + 1, a, e, h => by
    have ih := pm_ok n k (a * a % n) (e / 2) (by rw [Nat.pow_succ] at h; omega)
    have h2 : (a * a % n) ^ (e / 2) % n = a ^ (2 * (e / 2)) % n := by
      rw [← Nat.pow_mod, Nat.pow_mul, Nat.pow_two]
    rw [h2] at ih
    rw [pm]
    split
    · rename_i h1
      rw [Nat.mod_mod, Nat.mul_mod, ih, ← Nat.mul_mod, ← Nat.pow_succ']
      congr 2; omega
    · rename_i h1
      rw [ih]; congr 2; omega

theorem pock' {N F R a k : Nat} (hF : Pr F) (hN : N = F * R + 1) (hR : 0 < R) (hs : N ≤ F * F) (hk : F * R < 2 ^ k) (h1 : pm N k a (F * R) % N = 1) (h2 : Nat.gcd (pm N k a R % N + (N - 1)) N = 1) : Pr N := by
  have hFp := hF.1
  have hRle : R ≤ F * R := Nat.le_mul_of_pos_left R (by omega)
  rw [pm_ok _ _ _ _ hk] at h1
  rw [pm_ok _ _ _ _ (by omega)] at h2
  exact pock hF hN hR hs h1 h2

theorem small {n : Nat} (k : Nat) (h2 : 2 ≤ n) (hk : n < k * k) (h : ((List.range k).all fun d => decide (d < 2) || decide (n % d ≠ 0)) = true) : Pr n := by
  have hall : ∀ d, d < k → 2 ≤ d → ¬ d ∣ n := by
    intro d hd h2 hdv
    have := List.all_eq_true.1 h d (List.mem_range.2 hd)
    simp only [Bool.or_eq_true, decide_eq_true_eq] at this
    rcases this with h | h
    · omega
    · exact h (Nat.mod_eq_zero_of_dvd hdv)
  refine ⟨h2, fun x hx => ?_⟩
  apply Classical.byContradiction
  intro hc
  have hx1 : x ≠ 1 := fun e => hc (.inl e)
  have hx2 : x ≠ n := fun e => hc (.inr e)
  have hx' := hx
  obtain ⟨y, hy⟩ := hx
  have hx0 : x ≠ 0 := by rintro rfl; simp at hy; omega
  have hy0 : y ≠ 0 := by rintro rfl; simp at hy; omega
  have hy1 : y ≠ 1 := by rintro rfl; simp at hy; exact hx2 hy.symm
  have kx : k ≤ x := by
    rcases Nat.lt_or_ge x k with h | h
    · exact absurd hx' (hall x h (by omega))
    · exact h
  have ky : k ≤ y := by
    rcases Nat.lt_or_ge y k with h | h
    · exact absurd ⟨x, by rw [hy, Nat.mul_comm]⟩ (hall y h (by omega))
    · exact h
  have := Nat.mul_le_mul kx ky
  omega

def thePrime : Nat := 115792089237316195423570985008687907853269984665640564039457584007913129603823
def theOrder : Nat := 57896044618658097711785492504343953926634992332820282019728792003956564801911

theorem pr0 : Pr 213319 := small 462 (by decide) (by decide) (by decide +kernel)
theorem pr1 : Pr 2155375177 := pock' (F := 213319) (R := 10104) (a := 2) (k := 40) pr0 (by decide +kernel) (by decide) (by decide +kernel) (by decide +kernel) (by decide +kernel) (by decide +kernel)
theorem pr2 : Pr 59483944987587859 := pock' (F := 2155375177) (R := 27597954) (a := 2) (k := 64) pr1 (by decide +kernel) (by decide) (by decide +kernel) (by decide +kernel) (by decide +kernel) (by decide +kernel)
theorem pr3 : Pr 1202684276868524221513588244947 := pock' (F := 59483944987587859) (R := 20218636761894) (a := 2) (k := 104) pr2 (by decide +kernel) (by decide) (by decide +kernel) (by decide +kernel) (by decide +kernel) (by decide +kernel)
theorem pr4 : Pr 3201964079152361724098258636758155557 := pock' (F := 1202684276868524221513588244947) (R := 2662348) (a := 2) (k := 128) pr3 (by decide +kernel) (by decide) (by decide +kernel) (by decide +kernel) (by decide +kernel) (by decide +kernel)
theorem pr5 : Pr 2848630210554880446022254608450222949126931851754251657020267 := pock' (F := 3201964079152361724098258636758155557) (R := 889650895555637400306338) (a := 2) (k := 208) pr4 (by decide +kernel) (by decide) (by decide +kernel) (by decide +kernel) (by decide +kernel) (by decide +kernel)
theorem pr6 : Pr theOrder := pock' (F := 2848630210554880446022254608450222949126931851754251657020267) (R := 20324169983221730) (a := 2) (k := 256) pr5 (by decide +kernel) (by decide) (by decide +kernel) (by decide +kernel) (by decide +kernel) (by decide +kernel)
theorem pr7 : Pr thePrime := pock' (F := theOrder) (R := 2) (a := 2) (k := 256) pr6 (by decide +kernel) (by decide) (by decide +kernel) (by decide +kernel) (by decide +kernel) (by decide +kernel)
end Go.Nt
