/- Montgomery's forms; a new field. -/
import Derived.Test.YtmpfgaebmdbdeaaGreatDoorInv
set_option linter.unusedVariables false
namespace Go.Proofs
open Go Vinc

/-- What a field keeps: what m times is -1 modulo 2 to the 64th; the form of the form of 1. -/
noncomputable def bk (m : Nat) : Nat := if m % 2 = 1 then 18446744073709551616 - minv 18446744073709551616 m else 0
def tw (m : Nat) : Nat := if m % 2 = 1 then 18446744073709551616 * 18446744073709551616 % m else 0

/-- A field that New has made. -/
noncomputable abbrev newF (m : Nat) : PV := fld m (bk m) (tw m)

/-- A number divided by 2 to the 64th, modulo m. -/
noncomputable def redc (m z : Nat) : Nat := z * minv m 18446744073709551616 % m

theorem odd_gcd {m : Nat} (h : m % 2 = 1) : Nat.gcd 18446744073709551616 m = 1 := by
  have : (18446744073709551616 : Nat) = 2 ^ 64 := rfl
  rw [this]
  apply Nat.Coprime.pow_left
  show Nat.gcd 2 m = 1
  rw [Nat.gcd_rec, h]
  rfl

/-- The inverse is one, where there is one. -/
theorem minv_spec {m x : Nat} (hm : 2 ≤ m) (h : Nat.gcd x m = 1) : minv m x < m ∧ x * minv m x % m = 1 := by
  have hex : ∃ y, y < m ∧ x * y % m = 1 := by
    have hb : (m : Int) ∣ (x : Int) * (Int.bmod 0 1) - 0 := ⟨0, by simp⟩
    obtain ⟨u, hu⟩ : ∃ u : Nat, x * u % m = 1 % m := by
      have key : ∀ n r s a b : Nat, s = n → Nat.gcd r s = 1 → (m : Int) ∣ (a : Int) * x - r → (m : Int) ∣ (b : Int) * x - s → ∃ u : Nat, x * u % m = 1 % m := by
        intro n
        induction n using Nat.strongRecOn with
        | ind n ih =>
          intro r s a b hs hg h1 h2
          by_cases h0 : s = 0
          · rw [h0, Nat.gcd_zero_right] at hg
            refine ⟨a, ?_⟩
            rw [hg] at h1
            have := modeq_of_dvd (a := a * x) (b := 1) (by exact_mod_cast h1)
            rw [Nat.mul_comm]; exact this
          · have hlt : r % s < s := Nat.mod_lt _ (by omega)
            have hd : r - r / s * s = r % s := by
              have := Nat.div_add_mod r s
              rw [Nat.mul_comm] at this
              omega
            refine ih (r % s) (by omega) s (r % s) b (subM a (r / s * b % m) m) rfl ?_ h2 ?_
            · rw [← hg, Nat.gcd_comm s, ← Nat.gcd_rec, Nat.gcd_comm]
            · rw [← hd]; exact inv_step (by omega) h1 h2 (Nat.div_mul_le_self r s)
      exact key x m x 0 1 rfl (by rw [Nat.gcd_comm]; exact h) ⟨-1, by simp⟩ ⟨0, by simp⟩
    refine ⟨u % m, Nat.mod_lt _ (by omega), ?_⟩
    rw [Nat.mul_mod, Nat.mod_mod, ← Nat.mul_mod, hu]
    exact Nat.mod_eq_of_lt (by omega)
  unfold minv
  rw [dif_pos hex]
  exact Classical.choose_spec hex

theorem redc_eq {m z s : Nat} (hm : 2 ≤ m) (ho : m % 2 = 1) (h : s * 18446744073709551616 % m = z % m) : s % m = redc m z := by
  obtain ⟨h1, h2⟩ := minv_spec hm (odd_gcd ho)
  unfold redc
  rw [Nat.mul_mod, ← h, ← Nat.mul_mod, Nat.mul_assoc, Nat.mul_mod, h2, Nat.mul_one, Nat.mod_mod]

section
variable {m b t : Nat}

theorem carry_aux (low l : Nat) (hl : low < 18446744073709551616) (hl' : l < 18446744073709551616) (h : (low + l) % 18446744073709551616 = 0) : (low + l) / 18446744073709551616 * 18446744073709551616 = low + l ∧ (low + l) / 18446744073709551616 ≤ 1 := by omega

theorem sum_lt {high low um m : Nat} (hh : high < m) (hl : low < 18446744073709551616) (h : um ≤ 18446744073709551615 * m) : high * 18446744073709551616 + low + um < 2 * m * 18446744073709551616 := by omega

theorem swap4 (a d w l : Nat) : a + d + (w + l) = a + w + (d + l) := by omega

theorem sum_eq {high h k l low um : Nat} (h1 : k * 18446744073709551616 = low + l) (h2 : 18446744073709551616 * h + l = um) : (high + h + k) * 18446744073709551616 = high * 18446744073709551616 + low + um := by
  rw [Nat.add_mul, Nat.add_mul, h1, ← h2, Nat.mul_comm _ h]
  exact swap4 _ _ _ _

/-- The quotient that a reduction makes. -/
theorem reduce_eq {high low : Nat} (hm : MayM m) (hb : (m * b + 1) % 18446744073709551616 = 0) (hh : high < m) (hl : low < 18446744073709551616) :
    let u := low * b % 18446744073709551616
    let h := u * m / 18446744073709551616
    let l := u * m % 18446744073709551616
    let k := (low + l) / 18446744073709551616
    k ≤ 1 ∧ high + h + k < 2 * m ∧ (high + h + k) * 18446744073709551616 = high * 18446744073709551616 + low + u * m := by
  intro u h l k
  have hu : u < 18446744073709551616 := Nat.mod_lt _ (by decide)
  have hul := Nat.div_add_mod (u * m) 18446744073709551616
  have hll : l < 18446744073709551616 := Nat.mod_lt _ (by decide)
  have hz : (low + l) % 18446744073709551616 = 0 := by
    have e1 : (low + u * m) % 18446744073709551616 = 0 := by
      show (low + low * b % 18446744073709551616 * m) % 18446744073709551616 = 0
      rw [Nat.add_mod, Nat.mod_mul_mod, ← Nat.add_mod, show low + low * b * m = low * (m * b + 1) by grind, Nat.mul_mod, hb, Nat.mul_zero, Nat.zero_mod]
    show (low + u * m % 18446744073709551616) % 18446744073709551616 = 0
    rw [Nat.add_mod, Nat.mod_mod, ← Nat.add_mod, e1]
  obtain ⟨hk1, hk2⟩ := carry_aux low l hl hll hz
  have hum : u * m ≤ 18446744073709551615 * m := Nat.mul_le_mul_right _ (by omega)
  have hs : (high + h + k) * 18446744073709551616 = high * 18446744073709551616 + low + u * m := sum_eq hk1 hul
  refine ⟨hk2, ?_, hs⟩
  exact Nat.lt_of_mul_lt_mul_right (Nat.lt_of_le_of_lt (Nat.le_of_eq hs) (sum_lt hh hl hum))

end
end Go.Proofs
