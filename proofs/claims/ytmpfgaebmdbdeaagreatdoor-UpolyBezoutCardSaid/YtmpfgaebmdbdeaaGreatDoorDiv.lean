/- Division of two words by one. -/
import Derived.Test.YtmpfgaebmdbdeaaGreatDoorBits
set_option linter.unusedVariables false
namespace Go.Proofs
open Go Vinc

/-- The guess of a digit, and what the test of it says. -/
theorem knuth (u u1 y a b q r : Nat) (hy : y = a * 4294967296 + b) (ha : 2147483648 ≤ a) (ha' : a < 4294967296) (hb : b < 4294967296) (hu : u < y) (hu1 : u1 < 4294967296) (h1 : q * a + r = u)
    (hr : r < 4294967296) (hq : q ≤ 4294967297) :
    (4294967296 ≤ q ∨ (4294967296 * r % 18446744073709551616 + u1) % 18446744073709551616 < q * b % 18446744073709551616) ↔ (u * 4294967296 + u1) / y < q := by
  have hy0 : 0 < y := by omega
  have hlt : (u * 4294967296 + u1) / y < 4294967296 := by
    rw [Nat.div_lt_iff_lt_mul hy0]
    have : (u + 1) * 4294967296 ≤ y * 4294967296 := Nat.mul_le_mul_right _ hu
    rw [Nat.mul_comm 4294967296 y]
    omega
  have key : (u * 4294967296 + u1) / y < q ↔ 4294967296 * r + u1 < q * b := by
    rw [Nat.div_lt_iff_lt_mul hy0, hy, ← h1, Nat.mul_add, ← Nat.mul_assoc]
    have e : (q * a + r) * 4294967296 = q * a * 4294967296 + 4294967296 * r := by rw [Nat.add_mul, Nat.mul_comm r]
    rw [e]
    omega
  by_cases hc : 4294967296 ≤ q
  · constructor
    · intro _; omega
    · intro _; exact .inl hc
  · have hqb : q * b ≤ 4294967295 * 4294967295 := Nat.mul_le_mul (by omega) (by omega)
    rw [key, Nat.mod_eq_of_lt (by omega : q * b < _), Nat.mod_eq_of_lt (by omega : 4294967296 * r < _), Nat.mod_eq_of_lt (by omega : 4294967296 * r + u1 < _)]
    omega

/-- When the rest has grown beyond a digit, the guess is right. -/
theorem knuth_end (u u1 y a b q r : Nat) (hy : y = a * 4294967296 + b) (ha : 2147483648 ≤ a) (hb : b < 4294967296) (h1 : q * a + r = u)
    (hr : 4294967296 ≤ r) (hq : q ≤ 4294967296) : q ≤ (u * 4294967296 + u1) / y := by
  have hy0 : 0 < y := by omega
  refine (Nat.le_div_iff_mul_le hy0).mpr ?_
  rw [hy, ← h1, Nat.mul_add, ← Nat.mul_assoc, Nat.add_mul]
  have h2 : q * b ≤ 4294967296 * 4294967296 := Nat.mul_le_mul hq (by omega)
  have h3 : 4294967296 * 4294967296 ≤ r * 4294967296 := Nat.mul_le_mul_right _ hr
  omega

/-- The first guess. -/
theorem knuth_start (u u1 y a b : Nat) (hy : y = a * 4294967296 + b) (ha : 2147483648 ≤ a) (ha' : a < 4294967296) (hb : b < 4294967296) (hu : u < y) (hu1 : u1 < 4294967296) :
    u / a ≤ 4294967297 ∧ (u * 4294967296 + u1) / y ≤ u / a ∧ u % a < 4294967296 := by
  have h0 : 0 < a := by omega
  have hy0 : 0 < y := by omega
  refine ⟨?_, ?_, ?_⟩
  · apply Nat.le_of_lt_succ
    refine (Nat.div_lt_iff_lt_mul h0).mpr ?_
    generalize hk : (Nat.succ 4294967297) = k
    have hk' : k = 4294967298 := hk.symm
    rw [hk', Nat.mul_comm]
    omega
  · rw [Nat.le_div_iff_mul_le h0]
    have h1 : (u * 4294967296 + u1) / y * y ≤ u * 4294967296 + u1 := Nat.div_mul_le_self _ _
    generalize (u * 4294967296 + u1) / y = q at h1 ⊢
    rw [hy, Nat.mul_add, ← Nat.mul_assoc] at h1
    have h2 : q * a * 4294967296 ≤ u * 4294967296 + u1 := Nat.le_trans (Nat.le_add_right _ _) h1
    clear h1
    generalize q * a = qa at h2 ⊢
    omega
  · have := Nat.mod_lt u h0
    omega

theorem rest_aux (u u1 y m t : Nat) (h : m + t = u * 4294967296 + u1) (hm : t < y) (hu : u < y) (hu1 : u1 < 4294967296) (hy : y < 18446744073709551616) :
    ((u * 4294967296 % 18446744073709551616 + u1) % 18446744073709551616 + (18446744073709551616 - m % 18446744073709551616)) % 18446744073709551616 = t := by omega

/-- The rest behind a digit. -/
theorem knuth_rest (u u1 y : Nat) (hu : u < y) (hu1 : u1 < 4294967296) (hy : y < 18446744073709551616) :
    ((u * 4294967296 % 18446744073709551616 + u1) % 18446744073709551616 + (18446744073709551616 - (u * 4294967296 + u1) / y * y % 18446744073709551616)) % 18446744073709551616 = (u * 4294967296 + u1) % y := by
  have hy0 : 0 < y := by omega
  have h := Nat.div_add_mod (u * 4294967296 + u1) y
  have hm := Nat.mod_lt (u * 4294967296 + u1) hy0
  rw [Nat.mul_comm] at h
  exact rest_aux _ _ _ _ _ h hm hu hu1 hy

theorem digit_lt (u v y : Nat) (hu : u < y) (hv : v < 4294967296) : (u * 4294967296 + v) / y < 4294967296 := by
  rw [Nat.div_lt_iff_lt_mul (by omega)]
  have := Nat.mul_le_mul_right 4294967296 (show u + 1 ≤ y from hu)
  rw [Nat.mul_comm 4294967296 y]
  omega

/-- Words that share no place. -/
theorem or_apart (a b s : Nat) (ha : a < 18446744073709551616) (hb : b < 2 ^ s) (hd : 2 ^ s ∣ a) (hs : s ≤ 64) : bitI .or .u64 (a : Int) (b : Int) = ((a + b : Nat) : Int) := by
  have h2 : 2 ^ s ≤ 2 ^ 64 := Nat.pow_le_pow_right (by omega) hs
  obtain ⟨m, rfl⟩ := hd
  have hlt : 2 ^ s * m + b < 18446744073709551616 := by
    have e : 18446744073709551616 = 2 ^ s * 2 ^ (64 - s) := by rw [← Nat.pow_add, show s + (64 - s) = 64 by omega]
    rw [e] at ha ⊢
    have : m < 2 ^ (64 - s) := Nat.lt_of_mul_lt_mul_left ha
    have := Nat.mul_le_mul_left (2 ^ s) this
    rw [Nat.mul_succ] at this
    omega
  show IntKind.wrap .u64 (((BitVec.ofInt 64 ((2 ^ s * m : Nat) : Int) ||| BitVec.ofInt 64 (b : Int)).toNat : Nat) : Int) = _
  rw [BitVec.toNat_or, BitVec.ofInt_natCast, BitVec.ofInt_natCast, BitVec.toNat_ofNat, BitVec.toNat_ofNat, Nat.mod_eq_of_lt (by omega : 2 ^ s * m < 2 ^ 64), Nat.mod_eq_of_lt (by omega : b < 2 ^ 64),
    ← Nat.two_pow_add_eq_or_of_lt hb, wrapN, Nat.mod_eq_of_lt hlt]

theorem div_shift (n y s Q r : Nat) (h : n * 2 ^ s = Q * (y * 2 ^ s) + r) (hr : r < y * 2 ^ s) : n / y = Q ∧ n % y = r / 2 ^ s := by
  have h0 : 0 < 2 ^ s := Nat.two_pow_pos s
  have hy : 0 < y * 2 ^ s := by omega
  have h1 : n * 2 ^ s / (y * 2 ^ s) = Q := by
    rw [h, Nat.mul_comm Q, Nat.mul_add_div hy, Nat.div_eq_of_lt hr, Nat.add_zero]
  have h2 : n * 2 ^ s % (y * 2 ^ s) = r := by
    rw [h, Nat.mul_comm Q, Nat.mul_add_mod, Nat.mod_eq_of_lt hr]
  rw [Nat.mul_div_mul_right _ _ h0] at h1
  rw [Nat.mul_mod_mul_right] at h2
  exact ⟨h1, by rw [← h2, Nat.mul_div_cancel _ h0]⟩

theorem div_fin0 (u v1 v0 y q1 r1 q0 r0 : Nat) (d1 : y * q1 + r1 = u * 4294967296 + v1) (d2 : y * q0 + r0 = r1 * 4294967296 + v0) :
    u * 18446744073709551616 + (v1 * 4294967296 + v0) = (q1 * 4294967296 + q0) * y + r0 := by
  rw [Nat.add_mul, Nat.mul_comm q0, Nat.mul_right_comm, Nat.mul_comm q1]
  omega

theorem div_fin (N y s u v y' : Nat) (hN : N * 2 ^ s = u * 18446744073709551616 + v) (h0 : 0 < y') (hdiv : ∀ Q r, N * 2 ^ s = Q * y' + r → r < y' → N / y = Q ∧ N % y = r / 2 ^ s) :
    N / y = (u * 4294967296 + v / 4294967296) / y' * 4294967296 + ((u * 4294967296 + v / 4294967296) % y' * 4294967296 + v % 4294967296) / y'
    ∧ N % y = ((u * 4294967296 + v / 4294967296) % y' * 4294967296 + v % 4294967296) % y' / 2 ^ s := by
  refine hdiv _ _ ?_ (Nat.mod_lt _ h0)
  rw [hN]
  have hvv : v = v / 4294967296 * 4294967296 + v % 4294967296 := by omega
  exact (congrArg (u * 18446744073709551616 + ·) hvv).trans (div_fin0 u _ _ y' _ _ _ _ (Nat.div_add_mod _ _) (Nat.div_add_mod _ _))

/-- What is set up ahead of the digits. -/
theorem div_setup (hi lo y : Nat) (hhi : hi < y) (hlo : lo < 18446744073709551616) (hy : y < 18446744073709551616) : ∃ s y' a b u v v1 v0 : Nat,
    (len64 y ≤ 64 ∧ 64 - len64 y = s ∧ s ≤ 64) ∧ (y * 2 ^ s = y' ∧ y' < 18446744073709551616) ∧ (y' / 4294967296 = a ∧ y' % 4294967296 = b) ∧ (y' = a * 4294967296 + b ∧ 2147483648 ≤ a ∧ a < 4294967296 ∧ b < 4294967296)
    ∧ bitI .or .u64 ((hi * 2 ^ s % 18446744073709551616 : Nat) : Int) ((lo / 2 ^ (64 - s) : Nat) : Int) = (u : Int) ∧ u < y' ∧ lo * 2 ^ s % 18446744073709551616 = v ∧ v < 18446744073709551616 ∧ v / 4294967296 = v1 ∧ v % 4294967296 = v0
    ∧ v1 < 4294967296 ∧ v0 < 4294967296
    ∧ (hi * 18446744073709551616 + lo) / y = (u * 4294967296 + v1) / y' * 4294967296 + ((u * 4294967296 + v1) % y' * 4294967296 + v0) / y'
    ∧ (hi * 18446744073709551616 + lo) % y = ((u * 4294967296 + v1) % y' * 4294967296 + v0) % y' / 2 ^ s := by
  have hy0 : y ≠ 0 := by omega
  have hlz : len64 y ≤ 64 ∧ y * 2 ^ (64 - len64 y) < 18446744073709551616 ∧ 9223372036854775808 ≤ y * 2 ^ (64 - len64 y) := by
    unfold len64
    rw [if_neg hy0]
    have h1 : Nat.log2 y < 64 := (Nat.log2_lt hy0).mpr hy
    have h2 := Nat.log2_self_le hy0
    have h3 := @Nat.lt_log2_self y
    have e : (18446744073709551616 : Nat) = 2 ^ (Nat.log2 y + 1) * 2 ^ (64 - (Nat.log2 y + 1)) := by rw [← Nat.pow_add, show Nat.log2 y + 1 + (64 - (Nat.log2 y + 1)) = 64 by omega]
    have e' : (9223372036854775808 : Nat) = 2 ^ (Nat.log2 y) * 2 ^ (64 - (Nat.log2 y + 1)) := by rw [← Nat.pow_add, show Nat.log2 y + (64 - (Nat.log2 y + 1)) = 63 by omega]
    refine ⟨by omega, ?_, ?_⟩
    · rw [e]; exact Nat.mul_lt_mul_of_pos_right h3 (Nat.two_pow_pos _)
    · rw [e']; exact Nat.mul_le_mul_right _ h2
  obtain ⟨hl, hy1, hy2⟩ := hlz
  have hs64 : 64 - len64 y ≤ 64 := by omega
  generalize 64 - len64 y = s at hy1 hy2 hs64 ⊢
  have hps : 0 < 2 ^ s := Nat.two_pow_pos s
  have hpe : 2 ^ s * 2 ^ (64 - s) = 18446744073709551616 := by rw [← Nat.pow_add, show s + (64 - s) = 64 by omega]
  have hpt : 0 < 2 ^ (64 - s) := Nat.two_pow_pos _
  have hhs : hi * 2 ^ s < 18446744073709551616 := Nat.lt_of_le_of_lt (Nat.mul_le_mul_right _ (Nat.le_of_lt hhi)) hy1
  have hls : lo / 2 ^ (64 - s) < 2 ^ s := by
    rw [Nat.div_lt_iff_lt_mul hpt, hpe]; exact hlo
  have hN : (hi * 18446744073709551616 + lo) * 2 ^ s = (hi * 2 ^ s + lo / 2 ^ (64 - s)) * 18446744073709551616 + lo * 2 ^ s % 18446744073709551616 := by
    have h1 : lo * 2 ^ s / 18446744073709551616 = lo / 2 ^ (64 - s) := by
      rw [← hpe, Nat.mul_comm lo, Nat.mul_div_mul_left _ _ hps]
    have h2 := Nat.div_add_mod (lo * 2 ^ s) 18446744073709551616
    rw [h1] at h2
    rw [Nat.add_mul, Nat.add_mul, Nat.add_assoc, Nat.mul_comm (lo / _), h2, Nat.mul_right_comm]
  have hu : hi * 2 ^ s + lo / 2 ^ (64 - s) < y * 2 ^ s := by
    have := Nat.mul_le_mul_right (2 ^ s) hhi
    rw [Nat.succ_mul] at this
    omega
  have hor := or_apart (hi * 2 ^ s % 18446744073709551616) _ s (Nat.mod_lt _ (by decide)) hls (by rw [Nat.mod_eq_of_lt hhs]; exact ⟨hi, Nat.mul_comm _ _⟩) hs64
  have hv : lo * 2 ^ s % 18446744073709551616 < 18446744073709551616 := Nat.mod_lt _ (by decide)
  have hdiv := div_shift (hi * 18446744073709551616 + lo) y s
  rw [Nat.mod_eq_of_lt hhs] at hor
  refine ⟨s, _, _, _, hi * 2 ^ s + lo / 2 ^ (64 - s), _, _, _, ⟨hl, rfl, hs64⟩, ⟨rfl, hy1⟩, ⟨rfl, rfl⟩, ⟨by omega, by omega, by omega, by omega⟩, by rw [Nat.mod_eq_of_lt hhs]; exact hor, hu, rfl, hv, rfl, rfl, by omega, by omega, ?_⟩
  exact div_fin _ y s _ _ _ hN (by omega) hdiv

theorem test_iff (q b r v : Nat) : (bif decide ((q : Int) ≥ 4294967296) then true else decide (IntKind.wrap .u64 ((q : Int) * b) > IntKind.wrap .u64 (IntKind.wrap .u64 (4294967296 * (r : Int)) + v))) = true
    ↔ (4294967296 ≤ q ∨ (4294967296 * r % 18446744073709551616 + v) % 18446744073709551616 < q * b % 18446744073709551616) := by
  have e : (4294967296 * (r : Int)) = ((4294967296 : Nat) : Int) * (r : Int) := rfl
  rw [e, wrapMul, wrapMul, wrapAdd]
  by_cases h : 4294967296 ≤ q
  · rw [decide_eq_true (by omega : (q : Int) ≥ 4294967296)]
    simp [h]
  · rw [decide_eq_false (by omega : ¬ (q : Int) ≥ 4294967296)]
    simp only [cond_false, decide_eq_true_eq, gt_iff_lt, Int.ofNat_lt]
    omega

theorem Div64_spec (hi lo y : Nat) (hhi : hi < y) (hlo : lo < 18446744073709551616) (hy : y < 18446744073709551616) :
    CallSpec Tryz.pr.P Tryz.pr.G 61 [u64 hi, u64 lo, u64 y] (.tup 2 (two (u64 ((hi * 18446744073709551616 + lo) / y)) (u64 ((hi * 18446744073709551616 + lo) % y)))) := by
  have hy0 : y ≠ 0 := by omega
  obtain ⟨s, y', a, b, u, v, v1, v0, ⟨hl, hs, hs64⟩, ⟨hy1, hy2⟩, ⟨ea, eb⟩, ⟨hyy, ha, ha', hb⟩, hor, hu, ev, hv, ev1, ev0, hv1, hv0, hq, hr⟩ := div_setup hi lo y hhi hlo hy
  have hua := knuth_start u v1 y' a b hyy ha ha' hb hu hv1
  have hu2 : (u * 4294967296 + v1) % y' < y' := Nat.mod_lt _ (by omega)
  have hub := knuth_start ((u * 4294967296 + v1) % y') v0 y' a b hyy ha ha' hb hu2 hv0
  have hq1 := digit_lt u v1 y' hu hv1
  have hq0 := digit_lt ((u * 4294967296 + v1) % y') v0 y' hu2 hv0
  have kr1 := knuth_rest u v1 y' hu hv1 hy2
  have kr0 := knuth_rest ((u * 4294967296 + v1) % y') v0 y' hu2 hv0 hy2
  have ke1 := fun q r => knuth_end u v1 y' a b q r hyy ha hb
  have ke0 := fun q r => knuth_end ((u * 4294967296 + v1) % y') v0 y' a b q r hyy ha hb
  have kn1 := fun q r => knuth u v1 y' a b q r hyy ha ha' hb hu hv1
  have kn0 := fun q r => knuth ((u * 4294967296 + v1) % y') v0 y' a b q r hyy ha ha' hb hu2 hv0
  obtain ⟨u2, eu2⟩ : ∃ u2, (u * 4294967296 + v1) % y' = u2 := ⟨_, rfl⟩
  rw [eu2] at hu2 hub hq0 kr1 kr0 ke0 kn0 hq hr
  obtain ⟨q1, eq1⟩ : ∃ q1, (u * 4294967296 + v1) / y' = q1 := ⟨_, rfl⟩
  rw [eq1] at hua hq1 kr1 ke1 kn1 hq
  obtain ⟨q0, eq0⟩ : ∃ q0, (u2 * 4294967296 + v0) / y' = q0 := ⟨_, rfl⟩
  rw [eq0] at hub hq0 kr0 ke0 kn0 hq
  obtain ⟨r0, er0⟩ : ∃ r0, (u2 * 4294967296 + v0) % y' = r0 := ⟨_, rfl⟩
  rw [er0] at kr0 hr
  rw [hq, hr]
  refine callSpec_of Tryz.pr Tryz.func61 rfl rfl rfl fun w0 ok0 hok hG => ?_
  refine ev_rs [] rfl trivial ?_
  refine ev_seq (ev_rs [] rfl trivial (ev_cond rfl (fun h => absurd h (by simp; omega)) (fun _ => ev_sk ?_)))
  refine ev_seq (ev_rs [] rfl trivial (ev_cond rfl (fun h => absurd h (by simp; omega)) (fun _ => ev_sk ?_)))
  refine ev_seq (ev_rs [] rfl trivial (ev_cond rfl (fun h => ?_) (fun _ => ev_sk ?_)))
  · obtain rfl : hi = 0 := by simpa using h
    refine ev_ds [] (by kernel_rfl) rfl rfl ?_ ?_
    · exact ⟨by simpa using hy0, by simpa using hy0, trivial⟩
    · refine ev_ret (ret2 (fz_p (PLe.of_eq (congrArg (fun z => PV.val (.int .u64 z)) ?_))) (fz_p (PLe.of_eq (congrArg (fun z => PV.val (.int .u64 z)) ?_))))
      · rw [tdivN _ _ hlo, ← hq, Nat.zero_mul, Nat.zero_add]
      · rw [tmodN, ← hr, Nat.zero_mul, Nat.zero_add]
  refine ev_rs [i64 (64 - len64 y)] rfl ⟨.inl (LeadingZeros64_spec y hy), trivial⟩ (ev_n 8 s rfl (by rw [wrap64]; omega) ?_)
  refine ev_rs [] rfl ⟨by omega, trivial⟩ (ev_n 2 y' rfl ((shlN y s hs64).trans (by rw [hy1, Nat.mod_eq_of_lt hy2])) ?_)
  refine ev_rs [] rfl ⟨by decide, trivial⟩ (ev_n 9 a rfl ((shr32 _).trans (by rw [ea])) ?_)
  refine ev_rs [] rfl trivial (ev_n 10 b rfl ((and32 _ hy2).trans (by rw [eb])) ?_)
  have h64 : IntKind.wrap .u64 (64 - (s : Int)) = ((64 - s : Nat) : Int) := by rw [wrap64]; omega
  refine ev_rs [] rfl ?_ (ev_n 11 u rfl ?_ ?_)
  · refine ⟨?_, by omega, trivial⟩
    rw [h64]; omega
  · rw [h64, shlN hi s hs64, shrN lo (64 - s) (by omega)]
    exact hor
  refine ev_rs [] rfl ⟨by omega, trivial⟩ (ev_n 12 v rfl ((shlN lo s hs64).trans (by rw [ev])) ?_)
  refine ev_rs [] rfl ⟨by decide, trivial⟩ (ev_n 13 v1 rfl ((shr32 _).trans (by rw [ev1])) ?_)
  refine ev_rs [] rfl trivial (ev_n 14 v0 rfl ((and32 _ hv).trans (by rw [ev0])) ?_)
  refine ev_rs [] rfl ⟨by omega, trivial⟩ (ev_n 15 (u / a) rfl (tdivN _ _ (by omega)) ?_)
  refine ev_rs [] rfl trivial (ev_n 16 (u % a) rfl ?_ ?_)
  · have h1 := Nat.div_mul_le_self u a
    have h2 := Nat.div_add_mod u a
    rw [wrapMul, Nat.mod_eq_of_lt (by omega), wrapSub _ _ h1 (by omega)]
    rw [Nat.mul_comm] at h2
    omega
  refine ev_at (α := Unit) (fun _ => True) (fun _ => [(8, .p (u64 s)), (2, .p (u64 y')), (9, .p (u64 a)), (10, .p (u64 b)), (11, .p (u64 u)), (13, .p (u64 v1)), (14, .p (u64 v0)), (15, .p (u64 q1))]) (fun _ => []) ?_ ?_
  · refine ev_block (ev_while0 (α := Nat × Nat) (fun p => p.1 ≤ 4294967297 ∧ q1 ≤ p.1 ∧ p.2 < 4294967296 ∧ p.1 * a + p.2 = u)
      (fun p => [(8, .p (u64 s)), (2, .p (u64 y')), (9, .p (u64 a)), (10, .p (u64 b)), (11, .p (u64 u)), (13, .p (u64 v1)), (14, .p (u64 v0)), (15, .p (u64 p.1)), (16, .p (u64 p.2))]) (fun p => p.1) (u / a, u % a)
      ⟨hua.1, hua.2.1, hua.2.2, by rw [Nat.mul_comm]; exact Nat.div_add_mod u a⟩ ⟨le_0, le_0, le_0, le_0, le_0, le_0, le_0, le_0, le_0, trivial⟩ ?_)
    rintro ⟨q, r⟩ ⟨h1, h2, h3, h4⟩
    dsimp only at h1 h2 h3 h4
    refine ev_seq (ev_rs [] rfl ⟨⟨fun _ => rfl, gd_f⟩, by simp⟩ ?_)
    refine ev_cond rfl (fun h => ev_sk ?_) (fun h => ev_exit ?_)
    · have h5 := (kn1 q r h4 h3 h1).mp ((test_iff q b r v1).mp h)
      refine ev_block ?_
      refine ev_rs [] rfl trivial (ev_n 15 (q - 1) rfl (wrapSub q 1 (by omega) (by omega)) ?_)
      refine ev_rs [] rfl trivial (ev_n 16 (r + a) rfl ((wrapAdd r a).trans (by rw [Nat.mod_eq_of_lt (by omega)])) ?_)
      have h6 : (q - 1) * a + (r + a) = u := by
        rw [← h4]
        obtain ⟨k, rfl⟩ : ∃ k, q = k + 1 := ⟨q - 1, by omega⟩
        rw [Nat.add_sub_cancel, Nat.add_mul]
        omega
      refine ev_rs [] rfl trivial (ev_cond rfl (fun h' => ev_exit ?_) (fun h' => ev_skip ?_))
      · refine at0 () trivial ⟨le_0, le_0, le_0, le_0, le_0, le_0, le_0, le_e ?_, trivial⟩
        have h7 : 4294967296 ≤ r + a := by have := of_decide_eq_true h'; omega
        have h8 := ke1 (q - 1) (r + a) h6 h7 (by omega)
        rw [show q - 1 = q1 by omega]
      · refine round0 (q - 1, r + a) ⟨?_, ?_, ?_, h6⟩ ?_ ⟨le_0, le_0, le_0, le_0, le_0, le_0, le_0, le_0, le_0, trivial⟩
        · dsimp only; omega
        · dsimp only; omega
        · have := of_decide_eq_false h'; dsimp only; omega
        · dsimp only; omega
    · have h5 := (not_congr (kn1 q r h4 h3 h1)).mp (fun h' => Bool.noConfusion (h.symm.trans ((test_iff q b r v1).mpr h')))
      refine at0 () trivial ⟨le_0, le_0, le_0, le_0, le_0, le_0, le_0, le_e ?_, trivial⟩
      exact congrArg u64 (show q = _ by omega)
  rintro ⟨⟩ -
  refine ev_rs [] rfl trivial (ev_n 17 u2 rfl ?_ ?_)
  · show IntKind.wrap .u64 (IntKind.wrap .u64 (IntKind.wrap .u64 ((u : Int) * ((4294967296 : Nat) : Int)) + (v1 : Int)) - IntKind.wrap .u64 ((q1 : Int) * (y' : Int))) = _
    rw [wrapMul, wrapAdd, wrapMul, wrapSub' _ _ (Nat.le_of_lt (Nat.mod_lt _ (by decide)))]
    exact toN kr1
  refine ev_rs [] rfl ⟨by omega, trivial⟩ (ev_n 18 (u2 / a) rfl (tdivN _ _ (by omega)) ?_)
  refine ev_rs [] rfl trivial (ev_n 16 (u2 % a) rfl ?_ ?_)
  · have h1 := Nat.div_mul_le_self u2 a
    have h2 := Nat.div_add_mod u2 a
    have h3 : u2 / a < 18446744073709551616 := by omega
    rw [wrapMul, Nat.mod_eq_of_lt (by omega), wrapSub _ _ h1 (by omega)]
    rw [Nat.mul_comm] at h2
    omega
  refine ev_at (α := Unit) (fun _ => True) (fun _ => [(8, .p (u64 s)), (2, .p (u64 y')), (14, .p (u64 v0)), (15, .p (u64 q1)), (17, .p (u64 u2)), (18, .p (u64 q0))]) (fun _ => []) ?_ ?_
  · refine ev_block (ev_while0 (α := Nat × Nat) (fun p => p.1 ≤ 4294967297 ∧ q0 ≤ p.1 ∧ p.2 < 4294967296 ∧ p.1 * a + p.2 = u2)
      (fun p => [(8, .p (u64 s)), (2, .p (u64 y')), (9, .p (u64 a)), (10, .p (u64 b)), (14, .p (u64 v0)), (15, .p (u64 q1)), (17, .p (u64 u2)), (18, .p (u64 p.1)), (16, .p (u64 p.2))]) (fun p => p.1) (u2 / a, u2 % a)
      ⟨hub.1, hub.2.1, hub.2.2, by rw [Nat.mul_comm]; exact Nat.div_add_mod u2 a⟩ ⟨le_0, le_0, le_0, le_0, le_0, le_0, le_0, le_0, le_0, trivial⟩ ?_)
    rintro ⟨q, r⟩ ⟨h1, h2, h3, h4⟩
    dsimp only at h1 h2 h3 h4
    refine ev_seq (ev_rs [] rfl ⟨⟨fun _ => rfl, gd_f⟩, by simp⟩ ?_)
    refine ev_cond rfl (fun h => ev_sk ?_) (fun h => ev_exit ?_)
    · have h5 := (kn0 q r h4 h3 h1).mp ((test_iff q b r v0).mp h)
      refine ev_block ?_
      refine ev_rs [] rfl trivial (ev_n 18 (q - 1) rfl (wrapSub q 1 (by omega) (by omega)) ?_)
      refine ev_rs [] rfl trivial (ev_n 16 (r + a) rfl ((wrapAdd r a).trans (by rw [Nat.mod_eq_of_lt (by omega)])) ?_)
      have h6 : (q - 1) * a + (r + a) = u2 := by
        rw [← h4]
        obtain ⟨k, rfl⟩ : ∃ k, q = k + 1 := ⟨q - 1, by omega⟩
        rw [Nat.add_sub_cancel, Nat.add_mul]
        omega
      refine ev_rs [] rfl trivial (ev_cond rfl (fun h' => ev_exit ?_) (fun h' => ev_skip ?_))
      · refine at0 () trivial ⟨le_0, le_0, le_0, le_0, le_0, le_e ?_, trivial⟩
        have h7 : 4294967296 ≤ r + a := by have := of_decide_eq_true h'; omega
        have h8 := ke0 (q - 1) (r + a) h6 h7 (by omega)
        rw [show q - 1 = q0 by omega]
      · refine round0 (q - 1, r + a) ⟨?_, ?_, ?_, h6⟩ ?_ ⟨le_0, le_0, le_0, le_0, le_0, le_0, le_0, le_0, le_0, trivial⟩
        · dsimp only; omega
        · dsimp only; omega
        · have := of_decide_eq_false h'; dsimp only; omega
        · dsimp only; omega
    · have h5 := (not_congr (kn0 q r h4 h3 h1)).mp (fun h' => Bool.noConfusion (h.symm.trans ((test_iff q b r v0).mpr h')))
      refine at0 () trivial ⟨le_0, le_0, le_0, le_0, le_0, le_e ?_, trivial⟩
      exact congrArg u64 (show q = _ by omega)
  rintro ⟨⟩ -
  refine ev_rs [] rfl ⟨by omega, trivial⟩ ?_
  refine ev_ret (ret2 (fz_p (PLe.of_eq (congrArg (fun z => PV.val (.int .u64 z)) ?_))) (fz_p (PLe.of_eq (congrArg (fun z => PV.val (.int .u64 z)) ?_))))
  · show IntKind.wrap .u64 (IntKind.wrap .u64 ((q1 : Int) * ((4294967296 : Nat) : Int)) + (q0 : Int)) = _
    rw [wrapMul, wrapAdd, Nat.mod_eq_of_lt (by omega : q1 * 4294967296 < _), Nat.mod_eq_of_lt (by omega)]
  · show Int.fdiv (IntKind.wrap .u64 (IntKind.wrap .u64 (IntKind.wrap .u64 ((u2 : Int) * ((4294967296 : Nat) : Int)) + (v0 : Int)) - IntKind.wrap .u64 ((q0 : Int) * (y' : Int)))) _ = _
    rw [wrapMul, wrapAdd, wrapMul, wrapSub' _ _ (Nat.le_of_lt (Nat.mod_lt _ (by decide))), kr0]
    exact shrN _ s hs64

/-- The rest of two words by one. -/
theorem Rem64_spec (hi lo y : Nat) (hy0 : y ≠ 0) (hlo : lo < 18446744073709551616) (hy : y < 18446744073709551616) :
    CallSpec Tryz.pr.P Tryz.pr.G 54 [u64 hi, u64 lo, u64 y] (u64 ((hi * 18446744073709551616 + lo) % y)) := by
  refine callSpec_of Tryz.pr Tryz.func54 rfl rfl rfl fun w0 ok0 hok hG => ?_
  refine ev_rs [] rfl trivial ?_
  refine ev_rs [.tup 2 (two (u64 ((hi % y * 18446744073709551616 + lo) / y)) (u64 ((hi % y * 18446744073709551616 + lo) % y)))] rfl ⟨.inl ?_, by simpa using hy0, trivial⟩ ?_
  · exact Div64_spec (hi % y) lo y (Nat.mod_lt _ (by omega)) hlo hy
  refine ev_rs [] rfl trivial ?_
  refine ev_ret (ret1 (fz_p (PLe.of_eq (congrArg u64 ?_))))
  rw [Nat.add_mod, Nat.mod_mul_mod, ← Nat.add_mod]

end Go.Proofs
