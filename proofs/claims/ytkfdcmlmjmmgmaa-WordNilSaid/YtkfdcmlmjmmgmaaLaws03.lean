/- Chapter 3: the statements' walks. -/
import Derived.Test.YtkfdcmlmjmmgmaaLaw03a
set_option linter.unusedVariables false
set_option linter.unusedSimpArgs false
namespace Go.Proofs
open Go Vinc

theorem WordAdds_spec (m x y : Nat) (hy : y < 18446744073709551616) : CallSpec Try.pr.P Try.pr.G 5 [u64 m, u64 x, u64 y] (bool true) := by
  by_cases hm : MayM m
  · have hmz : (m : Int) ≠ 0 := by have := hm.1; omega
    have hmp : 0 < m := by have := hm.1; omega
    refine callSpec_of Try.pr Try.func5 rfl rfl rfl fun w0 ok0 hok hG => ?_
    refine ev_rs [] rfl trivial ?_
    refine ev_rs [.tup 2 (two (newF m) (bool true))] rfl ⟨.inl (field_good hm), trivial⟩ ?_
    refine ev_seq (ev_rs [] rfl trivial (ev_cf rfl (ev_sk ?_)))
    refine ev_seq (ev_rs [] rfl trivial (ev_cf rfl (ev_sk ?_)))
    refine ev_ds [u64 (x % m), u64 ((x + y) % m), u64 ((x + y) % m), u64 (subM x y m), u64 (subM x y m), u64 (x * y % m), u64 (x * y % m), bool true] (by kernel_rfl) rfl rfl
      (by repeat' (first | exact trivial | exact gd_t | exact gd_f | exact .inl awake_spec | exact .inl (Of_spec hm _) | exact .inl (Add_spec hm _ _) | exact .inl (RefAdd_spec hm _ _) | exact .inl (Sub_spec hm _ _) | exact .inl (RefSub_spec hm _ _) | exact .inl (Mul_spec hm _ _) | exact .inl (RefMul_spec hm _ _ hy) | exact hmz | exact (fun _ => rfl) | intro _ | apply And.intro | assumption | exact rfl | exact gd_t (by assumption) | exact gd_f (by assumption))) ?_
    refine ev_ret (ret1 (fz_p (PLe.of_eq (congrArg Vinc.bool ?_))))
    simp [tmodN]
  · refine callSpec_of Try.pr Try.func5 rfl rfl rfl fun w0 ok0 hok hG => ?_
    refine ev_rs [] rfl trivial ?_
    refine ev_rs [.tup 2 (two nilP (bool true))] rfl ⟨.inl (field_bad hm), trivial⟩ ?_
    refine ev_seq (ev_rs [] rfl trivial (ev_cf rfl (ev_sk ?_)))
    refine ev_seq (ev_rs [] rfl trivial (ev_ct rfl ?_))
    refine ev_rs [bool true] rfl ⟨.inl awake_spec, trivial⟩ ?_
    exact ev_ret (ret1 (fz_p (PLe.refl _)))

theorem WordPowers_spec (m x n : Nat) (hx : x < 18446744073709551616) (hn : n < 18446744073709551616) : CallSpec Try.pr.P Try.pr.G 7 [u64 m, u64 x, u64 n] (bool true) := by
  by_cases hm : MayM m
  · have hmz : (m : Int) ≠ 0 := by have := hm.1; omega
    have hmp : 0 < m := by have := hm.1; omega
    refine callSpec_of Try.pr Try.func7 rfl rfl rfl fun w0 ok0 hok hG => ?_
    refine ev_rs [] rfl trivial ?_
    refine ev_rs [.tup 2 (two (newF m) (bool true))] rfl ⟨.inl (field_good hm), trivial⟩ ?_
    refine ev_seq (ev_rs [] rfl trivial (ev_cf rfl (ev_sk ?_)))
    refine ev_seq (ev_rs [] rfl trivial (ev_cf rfl (ev_sk ?_)))
    refine ev_rs [u64 (x ^ n % m), u64 (x ^ n % m), bool true] rfl (by repeat' (first | exact trivial | exact gd_t | exact gd_f | exact .inl awake_spec | exact .inl (Pow_spec hm _ _ hn) | exact .inl (RefPow_spec hm _ _ hx hn) | exact (fun _ => rfl) | intro _ | apply And.intro | assumption | exact rfl | exact gd_t (by assumption) | exact gd_f (by assumption))) ?_
    refine ev_ret (ret1 (fz_p (PLe.of_eq (congrArg Vinc.bool ?_))))
    simp
  · refine callSpec_of Try.pr Try.func7 rfl rfl rfl fun w0 ok0 hok hG => ?_
    refine ev_rs [] rfl trivial ?_
    refine ev_rs [.tup 2 (two nilP (bool true))] rfl ⟨.inl (field_bad hm), trivial⟩ ?_
    refine ev_seq (ev_rs [] rfl trivial (ev_cf rfl (ev_sk ?_)))
    refine ev_seq (ev_rs [] rfl trivial (ev_ct rfl ?_))
    refine ev_rs [bool true] rfl ⟨.inl awake_spec, trivial⟩ ?_
    exact ev_ret (ret1 (fz_p (PLe.refl _)))

theorem WordInverts_spec (m x : Nat) (hm64 : m < 18446744073709551616) : CallSpec Try.pr.P Try.pr.G 3 [u64 m, u64 x] (bool true) := by
  by_cases hm : MayM m
  · have hmz : (m : Int) ≠ 0 := by have := hm.1; omega
    have hmp : 0 < m := by have := hm.1; omega
    refine callSpec_of Try.pr Try.func3 rfl rfl rfl fun w0 ok0 hok hG => ?_
    refine ev_rs [] rfl trivial ?_
    refine ev_rs [.tup 2 (two (newF m) (bool true))] rfl ⟨.inl (field_good hm), trivial⟩ ?_
    refine ev_seq (ev_rs [] rfl trivial (ev_cf rfl (ev_sk ?_)))
    refine ev_seq (ev_rs [] rfl trivial (ev_cf rfl (ev_sk ?_)))
    refine ev_rs [.tup 2 (two (u64 (minv m x)) (i64 (wrong x m)))] rfl ⟨.inl (Inv_spec hm x), trivial⟩ ?_
    refine ev_rs [i64 (wrong x m)] rfl ⟨.inl (RefWrong_spec hm x), trivial⟩ ?_
    refine ev_seq (ev_rs [] rfl trivial (ev_cond rfl (fun h => absurd h (by simp)) (fun _ => ev_sk ?_)))
    refine ev_seq (ev_rs [] rfl trivial (ev_cond rfl (fun h => ?_) (fun h => ev_sk ?_)))
    · have hw : wrong x m ≠ 0 := fun e => (bne_iff_ne.mp h) (Int.ofNat_inj.mpr e)
      have hz : minv m x = 0 := minv_none (fun e => hw ((wrong_gcd hm).mpr e))
      refine ev_rs [bool true] rfl (by repeat' (first | exact trivial | exact gd_t | exact gd_f | exact .inl awake_spec | exact (fun _ => rfl) | intro _ | apply And.intro | assumption | exact rfl | exact gd_t (by assumption) | exact gd_f (by assumption))) ?_
      refine ev_ret (ret1 (fz_p (PLe.of_eq (congrArg Vinc.bool ?_))))
      simp [hz]
    have hw : wrong x m = 0 := Int.ofNat_inj.mp (bne_eq_false_iff_eq.mp h)
    obtain ⟨h1, h2⟩ := minv_spec hm.1 ((wrong_gcd hm).mp hw)
    refine ev_rs [u64 (x * minv m x % m), bool true] rfl (by repeat' (first | exact trivial | exact gd_t | exact gd_f | exact .inl awake_spec | exact .inl (RefMul_spec hm _ _ (Nat.lt_trans h1 hm64)) | exact (fun _ => rfl) | intro _ | apply And.intro | assumption | exact rfl | exact gd_t (by assumption) | exact gd_f (by assumption))) ?_
    refine ev_ret (ret1 (fz_p (PLe.of_eq (congrArg Vinc.bool ?_))))
    simp [h1, h2]
  · refine callSpec_of Try.pr Try.func3 rfl rfl rfl fun w0 ok0 hok hG => ?_
    refine ev_rs [] rfl trivial ?_
    refine ev_rs [.tup 2 (two nilP (bool true))] rfl ⟨.inl (field_bad hm), trivial⟩ ?_
    refine ev_seq (ev_rs [] rfl trivial (ev_cf rfl (ev_sk ?_)))
    refine ev_seq (ev_rs [] rfl trivial (ev_ct rfl ?_))
    refine ev_rs [bool true] rfl ⟨.inl awake_spec, trivial⟩ ?_
    exact ev_ret (ret1 (fz_p (PLe.refl _)))

/-- Montgomery's form. -/
def formM (x m : Nat) : Nat := 18446744073709551616 * x % m

theorem formM_eq (x m : Nat) : x * 18446744073709551616 % m = formM x m := by
  unfold formM
  rw [Nat.mul_comm]

theorem RefForm_spec' {m : Nat} (hm : MayM m) (x : Nat) : CallSpec Try.pr.P Try.pr.G 19 [u64 x, u64 m] (u64 (formM x m)) := by
  have := RefForm_spec hm x
  rw [formM_eq] at this
  exact this

theorem in_eq {m : Nat} (hm : MayM m) (ho : m % 2 = 1) (x : Nat) : redc m (x % m * (tw m % m)) = formM x m := by
  rw [← formM_eq]
  symm
  apply redc_eq hm.1 ho
  have ht : tw m = 18446744073709551616 * 18446744073709551616 % m := if_pos ho
  rw [ht, Nat.mod_mod, ← Nat.mul_mod, Nat.mul_assoc]

theorem times_eq {m : Nat} (hm : MayM m) (ho : m % 2 = 1) (x y : Nat) : redc m (formM x m % m * (formM y m % m)) = formM (x * y % m) m := by
  rw [← formM_eq, ← formM_eq, ← formM_eq]
  rw [Nat.mod_mul_mod]
  symm
  apply redc_eq hm.1 ho
  rw [Nat.mod_mod, Nat.mod_mod, ← Nat.mul_mod]
  generalize 18446744073709551616 = W
  congr 1
  grind

theorem out_eq {m : Nat} (hm : MayM m) (ho : m % 2 = 1) (x : Nat) : redc m (x % m) < m ∧ formM (redc m (x % m)) m = x % m := by
  rw [← formM_eq]
  obtain ⟨h1, h2⟩ := minv_spec hm.1 (odd_gcd ho)
  have hmp : 0 < m := by have := hm.1; omega
  unfold redc
  refine ⟨Nat.mod_lt _ hmp, ?_⟩
  rw [Nat.mod_mul_mod, Nat.mul_assoc, Nat.mul_comm (minv _ _), Nat.mul_mod, h2, Nat.mul_one, Nat.mod_mod, Nat.mod_mod]

theorem WordForms_spec (m x y : Nat) (hy : y < 18446744073709551616) : CallSpec Try.pr.P Try.pr.G 4 [u64 m, u64 x, u64 y] (bool true) := by
  by_cases ho : m % 2 = 1
  · by_cases hm : MayM m
    · have hmz : (m : Int) ≠ 0 := by have := hm.1; omega
      have hmp : 0 < m := by have := hm.1; omega
      refine callSpec_of Try.pr Try.func4 rfl rfl rfl fun w0 ok0 hok hG => ?_
      refine ev_rs [] rfl trivial ?_
      refine ev_rs [.tup 2 (two (newF m) (bool true))] rfl ⟨.inl (field_good hm), trivial⟩ ?_
      refine ev_seq (ev_rs [] rfl trivial (ev_cf rfl (ev_sk ?_)))
      refine ev_seq (ev_rs [] rfl trivial (ev_cf rfl (ev_sk ?_)))
      refine ev_rs [.tup 2 (two (u64 (formM x m)) (i64 0))] rfl ⟨.inl (by have := In_spec (b := bk m) (t := tw m) hm ho (bk_ok ho) x; rw [in_eq hm ho] at this; exact this), trivial⟩ ?_
      refine ev_rs [.tup 2 (two (u64 (formM y m)) (i64 0))] rfl ⟨.inl (by have := In_spec (b := bk m) (t := tw m) hm ho (bk_ok ho) y; rw [in_eq hm ho] at this; exact this), trivial⟩ ?_
      refine ev_rs [.tup 2 (two (u64 (formM (x * y % m) m)) (i64 0))] rfl ⟨.inl (by have := Times_spec (b := bk m) (t := tw m) hm ho (bk_ok ho) (formM x m) (formM y m); rw [times_eq hm ho] at this; exact this), trivial⟩ ?_
      refine ev_rs [.tup 2 (two (u64 (redc m (x % m))) (i64 0))] rfl ⟨.inl (Out_spec hm ho (bk_ok ho) x), trivial⟩ ?_
      refine ev_seq (ev_rs [] rfl ⟨by decide, trivial⟩ (ev_cond rfl (fun h => ?_) (fun _ => ev_sk ?_)))
      · have h' : m % 2 = 0 := Int.ofNat_inj.mp (beq_iff_eq.mp h)
        omega
      refine ev_seq (ev_rs [] rfl (by repeat' (first | exact trivial | exact gd_t | exact gd_f | exact (fun _ => rfl) | intro _ | apply And.intro | assumption | exact rfl | exact gd_t (by assumption) | exact gd_f (by assumption))) (ev_cf rfl (ev_sk ?_)))
      obtain ⟨h1, h2⟩ := out_eq hm ho x
      refine ev_ds [u64 (formM x m), u64 (formM y m), u64 (x * y % m), u64 (formM (x * y % m) m), u64 (formM (redc m (x % m)) m), bool true] (by kernel_rfl) rfl rfl
        (by repeat' (first | exact trivial | exact gd_t | exact gd_f | exact .inl awake_spec | exact .inl (RefForm_spec' hm _) | exact .inl (RefMul_spec hm _ _ hy) | exact hmz | exact (fun _ => rfl) | intro _ | apply And.intro | assumption | exact rfl | exact gd_t (by assumption) | exact gd_f (by assumption))) ?_
      refine ev_ret (ret1 (fz_p (PLe.of_eq (congrArg Vinc.bool ?_))))
      simp [tmodN, h1, h2]
    · refine callSpec_of Try.pr Try.func4 rfl rfl rfl fun w0 ok0 hok hG => ?_
      refine ev_rs [] rfl trivial ?_
      refine ev_rs [.tup 2 (two nilP (bool true))] rfl ⟨.inl (field_bad hm), trivial⟩ ?_
      refine ev_seq (ev_rs [] rfl trivial (ev_cf rfl (ev_sk ?_)))
      refine ev_seq (ev_rs [] rfl trivial (ev_ct rfl ?_))
      refine ev_rs [bool true] rfl ⟨.inl awake_spec, trivial⟩ ?_
      exact ev_ret (ret1 (fz_p (PLe.refl _)))
  · by_cases hm : MayM m
    · have hmz : (m : Int) ≠ 0 := by have := hm.1; omega
      have hmp : 0 < m := by have := hm.1; omega
      refine callSpec_of Try.pr Try.func4 rfl rfl rfl fun w0 ok0 hok hG => ?_
      refine ev_rs [] rfl trivial ?_
      refine ev_rs [.tup 2 (two (newF m) (bool true))] rfl ⟨.inl (field_good hm), trivial⟩ ?_
      refine ev_seq (ev_rs [] rfl trivial (ev_cf rfl (ev_sk ?_)))
      refine ev_seq (ev_rs [] rfl trivial (ev_cf rfl (ev_sk ?_)))
      refine ev_rs [.tup 2 (two (u64 0) (i64 1))] rfl ⟨.inl (In_even hm ho x), trivial⟩ ?_
      refine ev_rs [.tup 2 (two (u64 0) (i64 1))] rfl ⟨.inl (In_even hm ho y), trivial⟩ ?_
      refine ev_rs [.tup 2 (two (u64 0) (i64 1))] rfl ⟨.inl (Times_even hm ho 0 0), trivial⟩ ?_
      refine ev_rs [.tup 2 (two (u64 0) (i64 1))] rfl ⟨.inl (Out_even hm ho x), trivial⟩ ?_
      refine ev_seq (ev_rs [] rfl ⟨by decide, trivial⟩ (ev_cond rfl (fun _ => ?_) (fun h => ?_)))
      · refine ev_rs [bool true] rfl (by repeat' (first | exact trivial | exact gd_t | exact gd_f | exact .inl awake_spec | exact (fun _ => rfl) | intro _ | apply And.intro | assumption | exact rfl | exact gd_t (by assumption) | exact gd_f (by assumption))) ?_
        exact ev_ret (ret1 (fz_p (PLe.of_eq rfl)))
      · have h' : ¬ m % 2 = 0 := fun e => (beq_eq_false_iff_ne.mp h) (Int.ofNat_inj.mpr e)
        omega
    · refine callSpec_of Try.pr Try.func4 rfl rfl rfl fun w0 ok0 hok hG => ?_
      refine ev_rs [] rfl trivial ?_
      refine ev_rs [.tup 2 (two nilP (bool true))] rfl ⟨.inl (field_bad hm), trivial⟩ ?_
      refine ev_seq (ev_rs [] rfl trivial (ev_cf rfl (ev_sk ?_)))
      refine ev_seq (ev_rs [] rfl trivial (ev_ct rfl ?_))
      refine ev_rs [bool true] rfl ⟨.inl awake_spec, trivial⟩ ?_
      exact ev_ret (ret1 (fz_p (PLe.refl _)))

/-- Arrays of two and of three words. -/
abbrev arr2 (x y : Nat) : PV := .agg 2 (two (u64 x) (u64 y))
abbrev arr3 (x y z : Nat) : PV := .agg 3 (three (u64 x) (u64 y) (u64 z))

theorem ring_facts (x y z m : Nat) (hm : 0 < m) :
    (y + x) % m = (x + y) % m ∧ y * x % m = x * y % m ∧ (x + (y + z) % m) % m = ((x + y) % m + z) % m ∧ x * (y * z % m) % m = x * y % m * z % m
    ∧ (x * y % m + x * z % m) % m = x * ((y + z) % m) % m ∧ subM ((x + y) % m) y m = x % m := by
  refine ⟨by rw [Nat.add_comm], by rw [Nat.mul_comm], ?_, ?_, ?_, ?_⟩
  · rw [Nat.add_mod_mod, Nat.mod_add_mod, Nat.add_assoc]
  · rw [Nat.mul_mod_mod, Nat.mod_mul_mod, Nat.mul_assoc]
  · rw [← Nat.add_mod, Nat.mul_mod_mod, Nat.mul_add]
  · have h1 : x % m < m := Nat.mod_lt _ hm
    have h2 : y % m < m := Nat.mod_lt _ hm
    unfold subM
    rw [Nat.mod_mod, Nat.add_mod x y]
    generalize x % m = a at *
    generalize y % m = b at *
    rcases Nat.lt_or_ge (a + b) m with h | h
    · rw [Nat.mod_eq_of_lt h, show a + b + m - b = a + m by omega, Nat.add_mod_right, Nat.mod_eq_of_lt h1]
    · rw [Nat.mod_eq_sub_mod h, Nat.mod_eq_of_lt (by omega : a + b - m < m), show a + b - m + m - b = a by omega, Nat.mod_eq_of_lt h1]

theorem WordRing_spec (m x y z : Nat) : CallSpec Try.pr.P Try.pr.G 6 [u64 m, arr3 x y z] (bool true) := by
  by_cases hm : MayM m
  · have hmz : (m : Int) ≠ 0 := by have := hm.1; omega
    have hmp : 0 < m := by have := hm.1; omega
    refine callSpec_of Try.pr Try.func6 rfl rfl rfl fun w0 ok0 hok hG => ?_
    refine ev_rs [] rfl trivial ?_
    refine ev_rs [.tup 2 (two (newF m) (bool true))] rfl ⟨.inl (field_good hm), trivial⟩ ?_
    refine ev_seq (ev_rs [] rfl trivial (ev_cf rfl (ev_sk ?_)))
    refine ev_seq (ev_rs [] rfl trivial (ev_cf rfl (ev_sk ?_)))
    obtain ⟨e1, e2, e3, e4, e5, e6⟩ := ring_facts x y z m hmp
    refine ev_rs [] rfl ⟨leb rfl, ⟨by decide, by decide⟩, trivial⟩ ?_
    refine ev_rs [] rfl ⟨leb rfl, ⟨by decide, by decide⟩, trivial⟩ ?_
    refine ev_rs [] rfl ⟨leb rfl, ⟨by decide, by decide⟩, trivial⟩ ?_
    refine ev_seq (ev_rs [u64 ((x + y) % m), u64 ((y + x) % m), u64 (x * y % m), u64 (y * x % m), u64 ((x + y) % m), u64 (((x + y) % m + z) % m), u64 ((y + z) % m), u64 ((x + (y + z) % m) % m),
        u64 (x * y % m), u64 (x * y % m * z % m), u64 (y * z % m), u64 (x * (y * z % m) % m)] rfl
      (by repeat' (first | exact trivial | exact gd_t | exact gd_f | exact .inl (Add_spec hm _ _) | exact .inl (Mul_spec hm _ _) | exact (fun _ => rfl) | intro _ | apply And.intro | assumption | exact rfl | exact gd_t (by assumption) | exact gd_f (by assumption))) (ev_cond rfl (fun h => absurd h (by simp [e1, e2, e3, e4])) (fun _ => ev_sk ?_)))
    refine ev_rs [u64 ((y + z) % m), u64 (x * ((y + z) % m) % m), u64 (x * y % m), u64 (x * z % m), u64 ((x * y % m + x * z % m) % m), u64 ((x + y) % m), u64 (subM ((x + y) % m) y m), u64 (x % m), u64 (x * 1 % m), u64 (x % m), u64 (x * 0 % m), bool true] rfl
      (by repeat' (first | exact trivial | exact gd_t | exact gd_f | exact .inl awake_spec | exact .inl (Add_spec hm _ _) | exact .inl (Mul_spec hm _ _) | exact .inl (Sub_spec hm _ _) | exact .inl (Of_spec hm _) | exact .inl (Mul_spec hm _ 1) | exact .inl (Mul_spec hm _ 0) | exact (fun _ => rfl) | intro _ | apply And.intro | assumption | exact rfl | exact gd_t (by assumption) | exact gd_f (by assumption))) ?_
    refine ev_ret (ret1 (fz_p (PLe.of_eq (congrArg Vinc.bool ?_))))
    simp [e5, e6]
  · refine callSpec_of Try.pr Try.func6 rfl rfl rfl fun w0 ok0 hok hG => ?_
    refine ev_rs [] rfl trivial ?_
    refine ev_rs [.tup 2 (two nilP (bool true))] rfl ⟨.inl (field_bad hm), trivial⟩ ?_
    refine ev_seq (ev_rs [] rfl trivial (ev_cf rfl (ev_sk ?_)))
    refine ev_seq (ev_rs [] rfl trivial (ev_ct rfl ?_))
    refine ev_rs [bool true] rfl ⟨.inl awake_spec, trivial⟩ ?_
    exact ev_ret (ret1 (fz_p (PLe.refl _)))

theorem exp_facts (x m a b : Nat) : x ^ a % m * (x ^ b % m) % m = x ^ (a + b) % m ∧ (x ^ a % m) ^ b % m = x ^ (a * b) % m := by
  constructor
  · rw [← Nat.mul_mod, ← Nat.pow_add]
  · rw [← Nat.pow_mod, ← Nat.pow_mul]

theorem exp_inv (x y m a b : Nat) (hm : MayM m) (h : x * y % m = 1) : x ^ (a + b) % m * (y ^ b % m) % m = x ^ a % m := by
  have h1 : 1 % m = 1 := Nat.mod_eq_of_lt hm.1
  rw [← Nat.mul_mod, Nat.pow_add, Nat.mul_assoc, ← Nat.mul_pow, Nat.mul_mod, Nat.pow_mod (x * y), h, Nat.one_pow, h1, Nat.mul_one, Nat.mod_mod]

theorem big_no (a b : Nat) (h : (bif bif false then true else decide ((a : Int) > 1000000) then true else decide ((b : Int) > 1000000)) = false) : a ≤ 1000000 ∧ b ≤ 1000000 := by
  by_cases ha : a ≤ 1000000
  · by_cases hb : b ≤ 1000000
    · exact ⟨ha, hb⟩
    · rw [decide_eq_true (by omega : (b : Int) > 1000000)] at h
      simp at h
  · rw [decide_eq_true (by omega : (a : Int) > 1000000)] at h
    simp at h

theorem WordExponents_spec (m x a b : Nat) (ha64 : a < 18446744073709551616) : CallSpec Try.pr.P Try.pr.G 8 [u64 m, u64 x, arr2 a b] (bool true) := by
  by_cases hm : MayM m
  · have hmz : (m : Int) ≠ 0 := by have := hm.1; omega
    have hmp : 0 < m := by have := hm.1; omega
    refine callSpec_of Try.pr Try.func8 rfl rfl rfl fun w0 ok0 hok hG => ?_
    refine ev_rs [] rfl trivial ?_
    refine ev_rs [.tup 2 (two (newF m) (bool true))] rfl ⟨.inl (field_good hm), trivial⟩ ?_
    refine ev_seq (ev_rs [] rfl trivial (ev_cf rfl (ev_sk ?_)))
    refine ev_seq (ev_rs [] rfl (by repeat' (first | exact trivial | exact gd_t | exact gd_f | exact leb rfl | exact (show (0 : Int) ≤ 0 by decide) | exact (show (0 : Int) < 2 by decide) | exact (show (0 : Int) ≤ 1 by decide) | exact (show (1 : Int) < 2 by decide) | exact (fun _ => rfl) | intro _ | apply And.intro | assumption | exact rfl | exact gd_t (by assumption) | exact gd_f (by assumption))) (ev_cond rfl (fun h => ?_) (fun h => ev_sk ?_)))
    · refine ev_rs [bool true] rfl ⟨.inl awake_spec, trivial⟩ ?_
      exact ev_ret (ret1 (fz_p (PLe.refl _)))
    have hab : a ≤ 1000000 ∧ b ≤ 1000000 := big_no a b h
    obtain ⟨ha, hb⟩ := hab
    have hab2 : a * b ≤ 1000000 * 1000000 := Nat.mul_le_mul ha hb
    have ew : IntKind.wrap .u64 ((a : Int) + (b : Int)) = ((a + b : Nat) : Int) := by rw [wrapAdd, Nat.mod_eq_of_lt (by omega)]
    have em : IntKind.wrap .u64 ((a : Int) * (b : Int)) = ((a * b : Nat) : Int) := by rw [wrapMul, Nat.mod_eq_of_lt (by omega)]
    obtain ⟨e1, e2⟩ := exp_facts x m a b
    have pa := Pow_spec (b := bk m) (t := tw m) hm x a (by omega)
    have pb := Pow_spec (b := bk m) (t := tw m) hm x b (by omega)
    have pab : CallSpec Try.pr.P Try.pr.G 26 [newF m, u64 x, .val (.int .u64 (IntKind.wrap .u64 ((a : Int) + (b : Int))))] (u64 (x ^ (a + b) % m)) := by
      rw [ew]; exact Pow_spec hm x (a + b) (by omega)
    have pm : CallSpec Try.pr.P Try.pr.G 26 [newF m, u64 x, .val (.int .u64 (IntKind.wrap .u64 ((a : Int) * (b : Int))))] (u64 (x ^ (a * b) % m)) := by
      rw [em]; exact Pow_spec hm x (a * b) (by omega)
    have pp := Pow_spec (b := bk m) (t := tw m) hm (x ^ a % m) b (by omega)
    have py := Pow_spec (b := bk m) (t := tw m) hm (minv m x) b (by omega)
    refine ev_rs [u64 (x ^ (a + b) % m)] rfl (by repeat' (first | exact trivial | exact gd_t | exact gd_f | exact .inl pab | exact leb rfl | exact (show (0 : Int) ≤ 0 by decide) | exact (show (0 : Int) < 2 by decide) | exact (show (0 : Int) ≤ 1 by decide) | exact (show (1 : Int) < 2 by decide) | exact (fun _ => rfl) | intro _ | apply And.intro | assumption | exact rfl | exact gd_t (by assumption) | exact gd_f (by assumption))) ?_
    refine ev_seq (ev_ds [u64 (x ^ a % m), u64 (x ^ b % m), u64 (x ^ a % m * (x ^ b % m) % m), u64 (x ^ a % m), u64 ((x ^ a % m) ^ b % m), u64 (x ^ (a * b) % m)] (by kernel_rfl) rfl rfl
      (by repeat' (first | exact trivial | exact gd_t | exact gd_f | exact .inl pa | exact .inl pb | exact .inl pm | exact .inl pp | exact .inl (Mul_spec hm _ _) | exact leb rfl | exact (show (0 : Int) ≤ 0 by decide) | exact (show (0 : Int) < 2 by decide) | exact (show (0 : Int) ≤ 1 by decide) | exact (show (1 : Int) < 2 by decide) | exact (fun _ => rfl) | intro _ | apply And.intro | assumption | exact rfl | exact gd_t (by assumption) | exact gd_f (by assumption)))
      (ev_cond rfl (fun h => absurd h (by simp [e1, e2])) (fun _ => ev_sk ?_)))
    refine ev_rs [.tup 2 (two (u64 (minv m x)) (i64 (wrong x m)))] rfl ⟨.inl (Inv_spec hm x), trivial⟩ ?_
    refine ev_ds [u64 (minv m x ^ b % m), u64 (x ^ (a + b) % m * (minv m x ^ b % m) % m), u64 (x ^ a % m), bool true] (by kernel_rfl) rfl rfl
      (by repeat' (first | exact trivial | exact gd_t | exact gd_f | exact .inl awake_spec | exact .inl pa | exact .inl py | exact .inl (Mul_spec hm _ _) | exact leb rfl | exact (show (0 : Int) ≤ 0 by decide) | exact (show (0 : Int) < 2 by decide) | exact (show (0 : Int) ≤ 1 by decide) | exact (show (1 : Int) < 2 by decide) | exact (fun _ => rfl) | intro _ | apply And.intro | assumption | exact rfl | exact gd_t (by assumption) | exact gd_f (by assumption))) ?_
    refine ev_ret (ret1 (fz_p (PLe.of_eq (congrArg Vinc.bool ?_))))
    by_cases hw : wrong x m = 0
    · obtain ⟨h1, h2⟩ := minv_spec hm.1 ((wrong_gcd hm).mp hw)
      simp [exp_inv x _ m a b hm h2]
    · simp [hw]
  · refine callSpec_of Try.pr Try.func8 rfl rfl rfl fun w0 ok0 hok hG => ?_
    refine ev_rs [] rfl trivial ?_
    refine ev_rs [.tup 2 (two nilP (bool true))] rfl ⟨.inl (field_bad hm), trivial⟩ ?_
    refine ev_seq (ev_rs [] rfl trivial (ev_cf rfl (ev_sk ?_)))
    refine ev_seq (ev_rs [] rfl (by repeat' (first | exact trivial | exact gd_t | exact gd_f | exact leb rfl | exact (show (0 : Int) ≤ 0 by decide) | exact (show (0 : Int) < 2 by decide) | exact (show (0 : Int) ≤ 1 by decide) | exact (show (1 : Int) < 2 by decide) | exact (fun _ => rfl) | intro _ | apply And.intro | assumption | exact rfl | exact gd_t (by assumption) | exact gd_f (by assumption))) (ev_ct rfl ?_))
    refine ev_rs [bool true] rfl ⟨.inl awake_spec, trivial⟩ ?_
    exact ev_ret (ret1 (fz_p (PLe.refl _)))


end Go.Proofs
