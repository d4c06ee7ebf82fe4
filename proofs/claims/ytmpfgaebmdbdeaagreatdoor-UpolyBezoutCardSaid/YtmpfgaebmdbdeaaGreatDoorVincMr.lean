/- The test by which a word is told to be a prime: what it answers. No program in sight. -/
import Derived.Test.YtmpfgaebmdbdeaaGreatDoorVincPrm
import Derived.Test.YtmpfgaebmdbdeaaGreatDoorVincTz
namespace Vinc.Num

def tzF : Nat → Nat → Nat
  | 0, _ => 0
  | f + 1, x => bif Nat.beq (x % 2) 1 then 0 else tzF f (x / 2) + 1

theorem tzF_eq : ∀ f k j, k < f → tzF f (2 ^ k * (2 * j + 1)) = k
  | f + 1, 0, j, _ => by
    unfold tzF
    rw [show (2 ^ 0 * (2 * j + 1)) % 2 = 1 by omega]
    rfl
  | f + 1, k + 1, j, h => by
    unfold tzF
    have e : 2 ^ (k + 1) * (2 * j + 1) = 2 * (2 ^ k * (2 * j + 1)) := by rw [Nat.pow_succ]; grind
    rw [e, show 2 * (2 ^ k * (2 * j + 1)) % 2 = 0 by omega, show 2 * (2 ^ k * (2 * j + 1)) / 2 = 2 ^ k * (2 * j + 1) by omega, tzF_eq f k j (by omega)]
    rfl

def tz (x : Nat) : Nat := tzF 64 x

/-- Squares: does one come to n - 1? -/
def sqs (n : Nat) : Nat → Nat → Bool
  | _, 0 => false
  | x, t + 1 => bif Nat.beq x (n - 1) then true else sqs n (x * x % n) t

def strongB (n b : Nat) : Bool :=
  bif Nat.beq (pw64 n b ((n - 1) / 2 ^ tz (n - 1))) 1 then true else sqs n (pw64 n b ((n - 1) / 2 ^ tz (n - 1))) (tz (n - 1))

def bases : List Nat := [2, 3, 5, 7, 11, 13, 17, 19, 23, 29, 31, 37]

def divB (n : Nat) : List Nat → Option Bool
  | [] => none
  | b :: l => bif Nat.beq (n % b) 0 then some (Nat.beq n b) else divB n l

def strongs (n : Nat) : List Nat → Bool
  | [] => true
  | b :: l => bif strongB n b then strongs n l else false

def isB (n : Nat) : Bool :=
  bif Nat.blt n 2 then false else match divB n bases with
    | some r => r
    | none => strongs n bases

theorem divB_none {n : Nat} : ∀ {l}, divB n l = none → ∀ b, b ∈ l → ¬ b ∣ n
  | [], _, b, hb => by cases hb
  | c :: l, h, b, hb => by
    unfold divB at h
    cases hc : Nat.beq (n % c) 0
    · rw [hc] at h
      rcases List.mem_cons.mp hb with rfl | hb
      · exact fun hd => absurd (Nat.mod_eq_zero_of_dvd hd) (Nat.ne_of_beq_eq_false hc)
      · exact divB_none h b hb
    · rw [hc] at h; cases h

theorem divB_some {n : Nat} : ∀ {l r}, divB n l = some r → ∃ b, b ∈ l ∧ b ∣ n ∧ r = Nat.beq n b
  | [], _, h => by cases h
  | c :: l, r, h => by
    unfold divB at h
    cases hc : Nat.beq (n % c) 0
    · rw [hc] at h
      obtain ⟨b, hb, h1, h2⟩ := divB_some h
      exact ⟨b, List.mem_cons_of_mem _ hb, h1, h2⟩
    · rw [hc] at h
      exact ⟨c, List.mem_cons_self, Nat.dvd_of_mod_eq_zero (Nat.eq_of_beq_eq_true hc), (Option.some.inj h).symm⟩

theorem bases_ge : ∀ b, b ∈ bases → 2 ≤ b := by decide

/-! ### a prime passes -/

theorem sqs_prime {p : Nat} (hp : IsPrime p) : ∀ t x, x < p → x ≠ 1 → x ^ (2 ^ t) % p = 1 → sqs p x t = true
  | 0, x, hx, h1, h => by
    rw [Nat.pow_zero, Nat.pow_one, Nat.mod_eq_of_lt hx] at h
    exact absurd h h1
  | t + 1, x, hx, h1, h => by
    unfold sqs
    cases hb : Nat.beq x (p - 1)
    · simp only [cond_false]
      have hne := Nat.ne_of_beq_eq_false hb
      refine sqs_prime hp t (x * x % p) (Nat.mod_lt _ hp.pos) (fun h2 => ?_) ?_
      · rcases root1 hp hx h2 with h3 | h3
        · exact h1 h3
        · exact hne h3
      · rw [← h, ← Nat.pow_mod, Nat.pow_succ, Nat.mul_comm (2 ^ t) 2, Nat.pow_mul x 2, Nat.pow_two]
    · rfl

theorem strong_prime {p b : Nat} (hp : IsPrime p) (hp2 : 2 < p) (hp64 : p < 18446744073709551616) (hb : ¬ p ∣ b) : strongB p b = true := by
  obtain ⟨k, j, e⟩ := exists_tz (p - 1) (by omega)
  have hk : k < 64 := by
    have h1 : 2 ^ k * 1 ≤ 2 ^ k * (2 * j + 1) := Nat.mul_le_mul_left _ (by omega)
    by_cases h : k < 64
    · exact h
    · have h2 : 2 ^ 64 ≤ 2 ^ k := Nat.pow_le_pow_right (by omega) (by omega)
      omega
  have ht : tz (p - 1) = k := by
    unfold tz; rw [e]; exact tzF_eq 64 k j hk
  have hd : (p - 1) / 2 ^ k = 2 * j + 1 := by rw [e]; exact Nat.mul_div_cancel_left _ (Nat.two_pow_pos k)
  unfold strongB
  rw [ht, hd, pw64_eq hp.1 (by have := Nat.div_le_self (p - 1) (2 ^ k); omega)]
  cases h : Nat.beq (b ^ (2 * j + 1) % p) 1
  · simp only [cond_false]
    refine sqs_prime hp k _ (Nat.mod_lt _ hp.pos) (Nat.ne_of_beq_eq_false h) ?_
    rw [← Nat.pow_mod, ← Nat.pow_mul, Nat.mul_comm (2 * j + 1), ← e]
    exact fermat1 hp hb
  · rfl

theorem strongs_prime {p : Nat} (hp : IsPrime p) (hp2 : 2 < p) (hp64 : p < 18446744073709551616) : ∀ l, (∀ b, b ∈ l → ¬ p ∣ b) → strongs p l = true
  | [], _ => rfl
  | b :: l, h => by
    unfold strongs
    rw [strong_prime hp hp2 hp64 (h b List.mem_cons_self)]
    exact strongs_prime hp hp2 hp64 l fun c hc => h c (List.mem_cons_of_mem _ hc)

theorem isB_prime {p : Nat} (hp : IsPrime p) (hp64 : p < 18446744073709551616) : isB p = true := by
  have h2 := hp.1
  unfold isB
  have h3 : Nat.blt p 2 = false := by
    cases h : Nat.blt p 2
    · rfl
    · have : p < 2 := by simpa [Nat.blt_eq] using h
      omega
  rw [h3]
  simp only [cond_false]
  cases h : divB p bases with
  | some r =>
    obtain ⟨b, hb, hd, hr⟩ := divB_some h
    rcases hp.2 b hd with h1 | h1
    · have := bases_ge b hb; omega
    · simp only [hr, h1]
      exact Nat.beq_refl p
  | none =>
    have hn := divB_none h
    have h4 : p ≠ 2 := fun e => hn 2 (by decide) (e ▸ Nat.dvd_refl 2)
    refine strongs_prime hp (by omega) hp64 _ fun b hb hd => ?_
    have hb0 : 0 < b := by have := bases_ge b hb; omega
    have hle := Nat.le_of_dvd hb0 hd
    have key : ∀ b, b ∈ bases → ∀ q, q < b + 1 → 2 ≤ q → q ∣ b → q ∈ bases := by decide +kernel
    exact hn p (key b hb p (by omega) h2 hd) (Nat.dvd_refl p)

/-! ### no number up to 100000 that is no prime passes -/

def colB (q : Nat) : Nat → Bool
  | 0 => true
  | m + 1 => bif isB (q * (m + 2)) then false else colB q m

def rowB : Nat → Bool
  | 0 => true
  | k + 1 => (match divB (k + 38) bases with | some _ => true | none => colB (k + 38) (100000 / (k + 38) - 1)) && rowB k

theorem colB_spec {q : Nat} : ∀ {k}, colB q k = true → ∀ m, 2 ≤ m → m < k + 2 → isB (q * m) = false
  | 0, _, m, h1, h2 => by omega
  | k + 1, h, m, h1, h2 => by
    unfold colB at h
    cases hb : isB (q * (k + 2))
    · rw [hb] at h
      rcases Nat.lt_or_ge m (k + 2) with h3 | h3
      · exact colB_spec h m h1 h3
      · rw [show m = k + 2 by omega]; exact hb
    · rw [hb] at h; cases h

theorem rowB_spec : ∀ {k}, rowB k = true → ∀ q, 38 ≤ q → q < k + 38 → divB q bases = none → ∀ m, 2 ≤ m → q * m ≤ 100000 → isB (q * m) = false
  | 0, _, q, h1, h2, _, m, _, _ => by omega
  | k + 1, h, q, h1, h2, hd, m, hm, hle => by
    unfold rowB at h
    rw [Bool.and_eq_true] at h
    rcases Nat.lt_or_ge q (k + 38) with h3 | h3
    · exact rowB_spec h.2 q h1 h3 hd m hm hle
    · obtain rfl : q = k + 38 := by omega
      have h4 := h.1
      rw [hd] at h4
      refine colB_spec h4 m hm ?_
      have : m ≤ 100000 / (k + 38) := by
        rw [Nat.le_div_iff_mul_le (by omega), Nat.mul_comm]; exact hle
      omega

theorem row_holds : rowB 280 = true := by decide +kernel

theorem isB_small {n : Nat} (hn : n ≤ 100000) (h : isB n = true) : IsPrime n := by
  unfold isB at h
  cases h2 : Nat.blt n 2
  · rw [h2] at h
    simp only [cond_false] at h
    have hn2 : 2 ≤ n := by
      have := Nat.blt_eq (x := n) (y := 2)
      rcases Nat.lt_or_ge n 2 with h3 | h3
      · rw [this.mpr h3] at h2; cases h2
      · exact h3
    cases hd : divB n bases with
    | some r =>
      rw [hd] at h
      simp only at h
      obtain ⟨b, hb, _, hr⟩ := divB_some hd
      rw [h] at hr
      have : n = b := Nat.eq_of_beq_eq_true hr.symm
      subst this
      have key : ∀ b, b ∈ bases → noDiv b 6 2 = true ∨ b = 2 ∨ b = 3 ∨ b = 5 ∨ b = 7 := by decide
      have key2 : ∀ b, b ∈ bases → b < 64 := by decide
      rcases key n hb with h3 | rfl | rfl | rfl | rfl
      · exact prime_of_trial hn2 (by have := key2 n hb; omega) h3
      · exact prime_of_trial (k := 0) (by decide) (by decide) (by decide)
      · exact prime_of_trial (k := 0) (by decide) (by decide) (by decide)
      · exact prime_of_trial (k := 1) (by decide) (by decide) (by decide)
      · exact prime_of_trial (k := 1) (by decide) (by decide) (by decide)
    | none =>
      rw [hd] at h
      simp only at h
      have hnd := divB_none hd
      by_cases hpn : IsPrime n
      · exact hpn
      refine prime_of_big (F := 316) hn2 (by omega) fun r hr hrn => ?_
      rcases Nat.lt_or_ge 316 r with h3 | h3
      · exact h3
      · exfalso
        have hr38 : 38 ≤ r := by
          rcases Nat.lt_or_ge r 38 with h4 | h4
          · have key : ∀ r, r < 38 → 2 ≤ r → ∃ b, b ∈ bases ∧ b ∣ r := by decide +kernel
            obtain ⟨b, hb, hbr⟩ := key r h4 hr.1
            exact absurd (Nat.dvd_trans hbr hrn) (hnd b hb)
          · exact h4
        have hrd : divB r bases = none := by
          cases hx : divB r bases with
          | none => rfl
          | some y =>
            obtain ⟨b, hb, hbr, _⟩ := divB_some hx
            exact absurd (Nat.dvd_trans hbr hrn) (hnd b hb)
        obtain ⟨m, hm⟩ := hrn
        by_cases h1 : m = 1
        · subst h1
          rw [Nat.mul_one] at hm
          exact hpn (hm ▸ hr)
        · have hm0 : m ≠ 0 := by rintro rfl; omega
          have := rowB_spec row_holds r hr38 (by omega) hrd m (by omega) (by omega)
          rw [← hm] at this
          unfold isB at this
          rw [h2, hd] at this
          simp only [cond_false] at this
          rw [this] at h; cases h
  · rw [h2] at h; cases h

end Vinc.Num
