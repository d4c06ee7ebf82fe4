/- The places of a word that are zero at its end. No program in sight. -/
namespace Vinc.Num

theorem exists_tz : ∀ x, 0 < x → ∃ k j, x = 2 ^ k * (2 * j + 1) := by
  intro x
  induction x using Nat.strongRecOn with
  | ind x ih =>
    intro hx
    by_cases h : x % 2 = 1
    · exact ⟨0, x / 2, by omega⟩
    · obtain ⟨k, j, e⟩ := ih (x / 2) (by omega) (by omega)
      refine ⟨k + 1, j, ?_⟩
      rw [Nat.pow_succ, Nat.mul_right_comm, ← e]
      omega

theorem and_neg : ∀ k j n, 2 ^ k * (2 * j + 1) < 2 ^ n → (2 ^ k * (2 * j + 1)) &&& (2 ^ n - 2 ^ k * (2 * j + 1)) = 2 ^ k
  | 0, j, 0, h => by simp at h
  | 0, j, n + 1, h => by
    simp only [Nat.pow_zero, Nat.one_mul] at h ⊢
    rw [Nat.pow_succ] at h ⊢
    have h1 : ((2 * j + 1) &&& (2 ^ n * 2 - (2 * j + 1))) / 2 = 0 := by
      rw [Nat.and_div_two, show (2 * j + 1) / 2 = j by omega, show (2 ^ n * 2 - (2 * j + 1)) / 2 = 2 ^ n - (j + 1) by omega]
      apply Nat.eq_of_testBit_eq
      intro i
      rw [Nat.testBit_and, Nat.testBit_two_pow_sub_succ (by omega), Nat.zero_testBit]
      cases j.testBit i <;> simp
    have h2 : ((2 * j + 1) &&& (2 ^ n * 2 - (2 * j + 1))) % 2 = 1 := Nat.and_mod_two_eq_one.mpr ⟨by omega, by omega⟩
    omega
  | k + 1, j, 0, h => by
    have := Nat.two_pow_pos (k + 1)
    have : 2 ^ (k + 1) * 1 ≤ 2 ^ (k + 1) * (2 * j + 1) := Nat.mul_le_mul_left _ (by omega)
    simp at h
    omega
  | k + 1, j, n + 1, h => by
    have e : 2 ^ (k + 1) * (2 * j + 1) = 2 * (2 ^ k * (2 * j + 1)) := by rw [Nat.pow_succ]; grind
    have e2 : 2 ^ (n + 1) = 2 * 2 ^ n := by rw [Nat.pow_succ, Nat.mul_comm]
    rw [e, e2] at h ⊢
    have ih := and_neg k j n (by omega)
    generalize 2 ^ k * (2 * j + 1) = x at ih h ⊢
    have h1 : ((2 * x) &&& (2 * 2 ^ n - 2 * x)) / 2 = 2 ^ k := by
      rw [Nat.and_div_two, show 2 * x / 2 = x by omega, show (2 * 2 ^ n - 2 * x) / 2 = 2 ^ n - x by omega]
      exact ih
    have h2 : ((2 * x) &&& (2 * 2 ^ n - 2 * x)) % 2 = 0 := by
      rcases Nat.mod_two_eq_zero_or_one ((2 * x) &&& (2 * 2 ^ n - 2 * x)) with h3 | h3
      · exact h3
      · have := (Nat.and_mod_two_eq_one.mp h3).1
        omega
    rw [Nat.pow_succ]
    omega

/-- The table by which the zeros are told. -/
def tab64 : List Nat := [0, 1, 56, 2, 57, 49, 28, 3, 61, 58, 42, 50, 38, 29, 17, 4, 62, 47, 59, 36, 45, 43, 51, 22, 53, 39, 33, 30, 24, 18, 12, 5, 63, 55, 48, 27, 60, 41, 37, 16, 46, 35, 44, 21, 52, 32, 23, 11, 54, 26, 40, 15, 34, 20, 31, 10, 25, 14, 19, 9, 13, 8, 7, 6]

theorem tab64_at : ∀ k, k < 64 → tab64.getD (2 ^ k * 285870213051353865 % 18446744073709551616 / 2 ^ 58) 0 = k ∧ 2 ^ k * 285870213051353865 % 18446744073709551616 / 2 ^ 58 < 64 := by decide +kernel

end Vinc.Num
