/- Powers and inverses modulo a word. -/
import Derived.Test.YtmpfgaebmdbdeaaGreatDoorRef03
set_option linter.unusedVariables false
namespace Go.Proofs
open Go Vinc

section
variable {m b t : Nat}

theorem Pow_nil (x n : Nat) (hn : n < 18446744073709551616) : CallSpec Tryz.pr.P Tryz.pr.G 102 [nilP, u64 x, u64 n] (u64 0) := by
  refine callSpec_of Tryz.pr Tryz.func102 rfl rfl rfl fun w0 ok0 hok hG => ?_
  refine ev_rs [] rfl trivial (ev_scope ?_)
  refine ev_rs [u64 0] rfl ⟨.inl (Of_nil 1), trivial⟩ (ev_seq (ev_label ?_))
  refine ev_at (α := Unit) (fun _ => True) (fun _ => [(7, .p (u64 0))]) (fun _ => []) ?_ ?_
  · refine ev_block (ev_while0 (α := Nat × Nat) (fun p => p.2 < 18446744073709551616)
      (fun p => [(0, .p nilP), (1, .p (u64 p.1)), (2, .p (u64 p.2)), (7, .p (u64 0))]) (fun p => p.2) (x, n) hn ⟨le_0, le_0, le_0, le_0, trivial⟩ ?_)
    rintro ⟨a, k⟩ h3
    dsimp only at h3
    refine ev_block ?_
    refine ev_at (α := Unit) (fun _ => 0 < k) (fun _ => [(0, .p nilP), (1, .p (u64 a)), (2, .p (u64 k)), (7, .p (u64 0))]) (fun _ => []) ?_ ?_
    · refine ev_block (ev_rs [] rfl trivial (ev_cond rfl (fun h => ev_exit ?_) (fun h => ?_)))
      · exact at0 () trivial ⟨le_0, trivial⟩
      have hk : 0 < k := by
        have : ¬ k = 0 := fun e => (beq_eq_false_iff_ne.mp h) (Int.ofNat_inj.mpr e)
        omega
      refine ev_rs [] rfl trivial (ev_cond rfl (fun h => ?_) (fun h => ?_))
      · exact ev_region [u64 0] rfl ⟨.inl (Mul_nil 0 a), trivial⟩ (at0 () hk ⟨le_0, le_0, le_0, le_0, trivial⟩)
      · exact ev_skip (at0 () hk ⟨le_0, le_0, le_0, le_0, trivial⟩)
    rintro ⟨⟩ hk
    refine ev_rs [u64 0] rfl ⟨.inl (Mul_nil a a), trivial⟩ ?_
    exact ev_region [] rfl ⟨by decide, trivial⟩ (round0 (0, k / 2) (by dsimp only; omega) (by dsimp only; omega) ⟨le_0, le_0, le_e (congrArg (fun z => PV.val (.int .u64 z)) (shr1 k)), le_0, trivial⟩)
  rintro ⟨⟩ -
  refine ev_rs [] rfl trivial ?_
  exact ev_ret (ret1 (fz_p (PLe.refl _)))

theorem Pow_spec (hm : MayM m) (x n : Nat) (hn : n < 18446744073709551616) : CallSpec Tryz.pr.P Tryz.pr.G 102 [fld m b t, u64 x, u64 n] (u64 (x ^ n % m)) := by
  have hm0 : m ≠ 0 := by have := hm.1; omega
  have hmp : 0 < m := by omega
  refine callSpec_of Tryz.pr Tryz.func102 rfl rfl rfl fun w0 ok0 hok hG => ?_
  refine ev_rs [] rfl trivial (ev_scope ?_)
  refine ev_rs [u64 (1 % m)] rfl ⟨.inl (Of_spec hm 1), trivial⟩ (ev_seq (ev_label ?_))
  refine ev_at (α := Unit) (fun _ => True) (fun _ => [(7, .p (u64 (x ^ n % m)))]) (fun _ => []) ?_ ?_
  · refine ev_block (ev_while0 (α := Nat × Nat × Nat) (fun p => p.1 < m ∧ (p.1 * p.2.1 ^ p.2.2) % m = x ^ n % m ∧ p.2.2 < 18446744073709551616)
      (fun p => [(0, .p (fld m b t)), (1, .p (u64 p.2.1)), (2, .p (u64 p.2.2)), (7, .p (u64 p.1))]) (fun p => p.2.2) (1 % m, x, n)
      ⟨Nat.mod_lt _ hmp, by dsimp only; rw [Nat.mod_mul_mod, Nat.one_mul], hn⟩ ⟨le_0, le_0, le_0, le_0, trivial⟩ ?_)
    rintro ⟨o, a, k⟩ ⟨h1, h2, h3⟩
    dsimp only at h1 h2 h3
    refine ev_block ?_
    refine ev_at (α := Unit) (fun _ => 0 < k) (fun _ => [(0, .p (fld m b t)), (1, .p (u64 a)), (2, .p (u64 k)), (7, .p (u64 (if k % 2 = 1 then o * a % m else o)))]) (fun _ => []) ?_ ?_
    · refine ev_block (ev_rs [] rfl trivial (ev_cond rfl (fun h => ev_exit ?_) (fun h => ?_)))
      · have hk : k = 0 := Int.ofNat_inj.mp (beq_iff_eq.mp h)
        refine at0 () trivial ⟨le_e (congrArg u64 ?_), trivial⟩
        rw [hk, Nat.pow_zero, Nat.mul_one, Nat.mod_eq_of_lt h1] at h2
        exact h2
      have hk : 0 < k := by
        have : ¬ k = 0 := fun e => (beq_eq_false_iff_ne.mp h) (Int.ofNat_inj.mpr e)
        omega
      refine ev_rs [] rfl trivial (ev_cond rfl (fun h => ?_) (fun h => ?_))
      · have hk1 : k % 2 = 1 := by
          have := beq_iff_eq.mp h
          rw [and1 k h3] at this
          exact Int.ofNat_inj.mp this
        refine ev_region [u64 (o * a % m)] rfl ⟨.inl (Mul_spec hm o a), trivial⟩ (at0 () hk ⟨le_0, le_0, le_0, le_e (congrArg u64 ?_), trivial⟩)
        rw [if_pos hk1]
      · have hk1 : ¬ k % 2 = 1 := fun e => by
          have := beq_eq_false_iff_ne.mp h
          rw [and1 k h3] at this
          exact this (Int.ofNat_inj.mpr e)
        refine ev_skip (at0 () hk ⟨le_0, le_0, le_0, le_e (congrArg u64 ?_), trivial⟩)
        rw [if_neg hk1]
    rintro ⟨⟩ hk
    refine ev_rs [u64 (a * a % m)] rfl ⟨.inl (Mul_spec hm a a), trivial⟩ ?_
    refine ev_region [] rfl ⟨by decide, trivial⟩ (round0 (if k % 2 = 1 then o * a % m else o, a * a % m, k / 2) ⟨?_, pow_step _ _ _ _ _ h2, by dsimp only; omega⟩ (by dsimp only; omega)
      ⟨le_0, le_0, le_e (congrArg (fun z => PV.val (.int .u64 z)) (shr1 k)), le_0, trivial⟩)
    dsimp only
    split
    · exact Nat.mod_lt _ hmp
    · exact h1
  rintro ⟨⟩ -
  refine ev_rs [] rfl trivial ?_
  exact ev_ret (ret1 (fz_p (PLe.refl _)))

/-- What x times is 1, modulo m; 0 where there is none. -/
noncomputable def minv (m x : Nat) : Nat := open Classical in if h : ∃ y, y < m ∧ x * y % m = 1 then Classical.choose h else 0

theorem minv_unique {m x y z : Nat} (hy : y < m) (hz : z < m) (h1 : x * y % m = 1) (h2 : x * z % m = 1) : y = z := by
  have e1 : y * (x * z) % m = y := by rw [Nat.mul_mod, h2, Nat.mul_one, Nat.mod_mod, Nat.mod_eq_of_lt hy]
  have e2 : z * (x * y) % m = z := by rw [Nat.mul_mod, h1, Nat.mul_one, Nat.mod_mod, Nat.mod_eq_of_lt hz]
  have e3 : y * (x * z) = z * (x * y) := by grind
  exact e1.symm.trans ((congrArg (· % m) e3).trans e2)

theorem minv_eq {m x y : Nat} (hy : y < m) (h : x * y % m = 1) : minv m x = y := by
  have hex : ∃ y, y < m ∧ x * y % m = 1 := ⟨y, hy, h⟩
  unfold minv
  rw [dif_pos hex]
  have := Classical.choose_spec hex
  exact minv_unique this.1 hy this.2 h

theorem gcd_of_inv {m x y : Nat} (h : x * y % m = 1) : Nat.gcd x m = 1 := by
  have h1 : Nat.gcd x m ∣ x * y := Nat.dvd_mul_right_of_dvd (Nat.gcd_dvd_left x m) y
  have h2 : Nat.gcd x m ∣ m := Nat.gcd_dvd_right x m
  have h3 : Nat.gcd x m ∣ x * y % m := (Nat.dvd_mod_iff h2).mpr h1
  rw [h] at h3
  exact Nat.dvd_one.mp h3

theorem minv_none {m x : Nat} (h : Nat.gcd x m ≠ 1) : minv m x = 0 := by
  unfold minv
  rw [dif_neg]
  rintro ⟨y, _, hy⟩
  exact h (gcd_of_inv hy)

theorem gcd_mod (x m : Nat) : Nat.gcd (x % m) m = Nat.gcd x m := by
  rw [← Nat.gcd_rec, Nat.gcd_comm]

theorem wrong_eq (x m : Nat) : wrong x m = if x % m = 0 then 10 else if Nat.gcd x m = 1 then 0 else 11 := by
  unfold wrong
  simp only [gcd_mod]

theorem wrong_gcd {x m : Nat} (hm : MayM m) : wrong x m = 0 ↔ Nat.gcd x m = 1 := by
  rw [wrong_eq]
  split
  · rename_i h
    constructor
    · intro h'; omega
    · intro h'
      have : m ∣ x := Nat.dvd_of_mod_eq_zero h
      rw [Nat.gcd_eq_right this] at h'
      have := hm.1; omega
  · split <;> simp_all

theorem subM_dvd {m : Nat} (hm : 0 < m) (x y : Nat) : (m : Int) ∣ (subM x y m : Int) - (x - y) := by
  have hx := Nat.div_add_mod x m
  have hy := Nat.div_add_mod y m
  have hlt : y % m < m := Nat.mod_lt _ hm
  have hs := Nat.div_add_mod (x % m + m - y % m) m
  unfold subM
  refine ⟨- ((x % m + m - y % m) / m : Nat) + 1 - (x / m : Nat) + (y / m : Nat), ?_⟩
  generalize (x % m + m - y % m) % m = c at *
  have h1 : ((x % m + m - y % m : Nat) : Int) = (x % m : Nat) + (m : Int) - (y % m : Nat) := by omega
  generalize (x % m + m - y % m) / m = d at *
  generalize x % m + m - y % m = e at *
  generalize x % m = xr at *
  generalize y % m = yr at *
  generalize x / m = xq at *
  generalize y / m = yq at *
  subst hx hy hs
  push_cast at h1 ⊢
  grind

theorem modeq_of_dvd {m a b : Nat} (h : (m : Int) ∣ (a : Int) - b) : a % m = b % m := by
  have := Int.emod_emod_of_dvd
  have h' := Int.emod_eq_emod_iff_emod_sub_eq_zero.mpr (Int.emod_eq_zero_of_dvd h)
  exact_mod_cast h'

theorem inv_step {m x r s a b' q : Nat} (hm : 0 < m) (h1 : (m : Int) ∣ (a : Int) * x - r) (h2 : (m : Int) ∣ (b' : Int) * x - s) (hq : q * s ≤ r) :
    (m : Int) ∣ (subM a (q * b' % m) m : Int) * x - ((r - q * s : Nat) : Int) := by
  obtain ⟨k1, h1⟩ := h1
  obtain ⟨k2, h2⟩ := h2
  obtain ⟨k3, h3⟩ := subM_dvd hm a (q * b' % m)
  have h4 := Nat.div_add_mod (q * b') m
  refine ⟨k3 * x + k1 - q * k2 + x * (q * b' / m : Nat), ?_⟩
  generalize subM a (q * b' % m) m = c at *
  generalize q * b' % m = d at *
  generalize q * b' / m = e at *
  have h5 : ((r - q * s : Nat) : Int) = r - q * s := by
    rw [Int.natCast_sub hq]; push_cast; rfl
  have h6 : (m : Int) * e + d = q * b' := by exact_mod_cast h4
  rw [h5]
  grind

theorem Inv_nil (x : Nat) : CallSpec Tryz.pr.P Tryz.pr.G 43 [nilP, u64 x] (.tup 2 (two (u64 0) (i64 2))) := by
  refine callSpec_of Tryz.pr Tryz.func43 rfl rfl rfl fun w0 ok0 hok hG => ?_
  refine ev_rs [] rfl trivial ?_
  refine ev_seq (ev_rs [] rfl trivial (ev_ct rfl ?_))
  exact ev_rs [] rfl trivial (ev_ret (ret2 (fz_p (PLe.refl _)) (fz_p (PLe.refl _))))

theorem Inv_spec (hm : MayM m) (x : Nat) : CallSpec Tryz.pr.P Tryz.pr.G 43 [fld m b t, u64 x] (.tup 2 (two (u64 (minv m x)) (i64 (wrong x m)))) := by
  have hm0 : m ≠ 0 := by have := hm.1; omega
  have hmp : 0 < m := by omega
  have hm2 := hm.2
  have hlt : x % m < m := Nat.mod_lt _ hmp
  refine callSpec_of Tryz.pr Tryz.func43 rfl rfl rfl fun w0 ok0 hok hG => ?_
  refine ev_rs [] rfl trivial ?_
  refine ev_seq (ev_rs [] rfl trivial (ev_cf rfl (ev_sk ?_)))
  refine ev_rs [] rfl ⟨by simpa using hm0, by decide, trivial⟩ ?_
  refine ev_seq (ev_rs [] rfl trivial (ev_cond rfl (fun h => ?_) (fun h => ev_sk ?_)))
  · have h' : x % m = 0 := Int.ofNat_inj.mp (beq_iff_eq.mp h)
    refine ev_rs [] rfl trivial (ev_ret (ret2 (fz_p (PLe.of_eq (congrArg u64 ?_))) (fz_p (PLe.of_eq (congrArg i64 ?_)))))
    · symm
      apply minv_none
      rw [← gcd_mod, h', Nat.gcd_zero_left]
      have := hm.1; omega
    · unfold wrong; rw [if_pos h']; rfl
  have h0 : ¬ x % m = 0 := fun e => (beq_eq_false_iff_ne.mp h) (Int.ofNat_inj.mpr e)
  refine ev_rs [] rfl ⟨by decide, trivial⟩ ?_
  refine ev_rs [] rfl trivial ?_
  refine ev_at (α := Nat × Nat) (fun p => p.1 = Nat.gcd x m ∧ p.2 < m ∧ (m : Int) ∣ (p.2 : Int) * x - p.1) (fun p => [(6, .p (u64 p.1)), (8, .p (u64 p.2))]) (fun _ => []) ?_ ?_
  · refine ev_block (ev_while0 (α := Nat × Nat × Nat × Nat) (fun p => (p.1 ≤ m ∧ p.2.1 < m) ∧ Nat.gcd p.1 p.2.1 = Nat.gcd x m ∧ (p.2.2.1 < m ∧ p.2.2.2 < m) ∧ (m : Int) ∣ (p.2.2.1 : Int) * x - p.1 ∧ (m : Int) ∣ (p.2.2.2 : Int) * x - p.2.1)
      (fun p => [(0, .p (fld m b t)), (6, .p (u64 p.1)), (7, .p (u64 p.2.1)), (8, .p (u64 p.2.2.1)), (9, .p (u64 p.2.2.2))]) (fun p => p.2.1) (m, x % m, 0, 1)
      ⟨⟨Nat.le_refl _, hlt⟩, by dsimp only; rw [Nat.gcd_comm, gcd_mod], ⟨hmp, hm.1⟩, ⟨-1, by dsimp only; omega⟩, ⟨(x / m : Nat), ?_⟩⟩ ⟨le_0, le_0, le_0, le_0, le_0, trivial⟩ ?_)
    · have := Nat.div_add_mod x m
      dsimp only
      have h' : (m : Int) * (x / m : Nat) + (x % m : Nat) = x := by exact_mod_cast this
      omega
    rintro ⟨r, s, a, k⟩ ⟨⟨h1, h2⟩, h3, ⟨h4, h5⟩, h6, h7⟩
    dsimp only at h1 h2 h3 h4 h5 h6 h7
    refine ev_seq (ev_rs [] rfl trivial (ev_cond rfl (fun h => ev_sk ?_) (fun h => ev_exit ?_)))
    · have hk : 0 < s := Int.ofNat_lt.mp (of_decide_eq_true h)
      have hk0 : s ≠ 0 := by omega
      have hds : r / s * s ≤ r := Nat.div_mul_le_self r s
      have hdm : r - r / s * s = r % s := by
        have := Nat.div_add_mod r s
        rw [Nat.mul_comm] at this
        omega
      have hrs : r % s < s := Nat.mod_lt _ hk
      refine ev_block ?_
      refine ev_rs [] rfl ⟨by simpa using hk0, trivial⟩ (ev_n 10 (r / s) rfl (tdivN _ _ (by omega)) ?_)
      refine ev_rs [] rfl trivial (ev_n 7 (r % s) rfl ?_ ?_)
      · dsimp only
        rw [wrapMul, Nat.mod_eq_of_lt (by omega), wrapSub _ _ hds (by omega), hdm]
      refine ev_region [u64 (r / s * k % m), u64 (subM a (r / s * k % m) m)] rfl ⟨.inl (Sub_spec hm _ _), .inl (Mul_spec hm _ _), trivial⟩
        (round0 (s, r % s, k, subM a (r / s * k % m) m) ⟨⟨by dsimp only; omega, by dsimp only; omega⟩, ?_, ⟨h5, ?_⟩, h7, ?_⟩ hrs ⟨le_0, le_0, le_0, le_0, le_0, trivial⟩)
      · dsimp only
        rw [← h3, Nat.gcd_comm s, ← Nat.gcd_rec, Nat.gcd_comm]
      · exact Nat.mod_lt _ hmp
      · dsimp only
        rw [← hdm]
        exact inv_step hmp h6 h7 hds
    · have hk : s = 0 := by
        have := of_decide_eq_false h
        dsimp only at this
        omega
      refine at0 (r, a) ⟨?_, h4, h6⟩ ⟨le_0, le_0, trivial⟩
      rw [hk, Nat.gcd_zero_right] at h3
      exact h3
  rintro ⟨r, a⟩ ⟨h1, h2, h3⟩
  dsimp only at h1 h2 h3
  refine ev_seq (ev_rs [] rfl trivial (ev_cond rfl (fun h => ?_) (fun h => ev_sk ?_)))
  · have hr : ¬ r = 1 := fun e => (bne_iff_ne.mp h) (Int.ofNat_inj.mpr e)
    refine ev_rs [] rfl trivial (ev_ret (ret2 (fz_p (PLe.of_eq (congrArg u64 ?_))) (fz_p (PLe.of_eq (congrArg i64 ?_)))))
    · exact (minv_none (h1 ▸ hr)).symm
    · rw [wrong_eq, if_neg h0, if_neg (h1 ▸ hr)]; rfl
  · have hr : r = 1 := Int.ofNat_inj.mp (bne_eq_false_iff_eq.mp h)
    refine ev_rs [] rfl trivial (ev_ret (ret2 (fz_p (PLe.of_eq (congrArg u64 ?_))) (fz_p (PLe.of_eq (congrArg i64 ?_)))))
    · symm
      apply minv_eq h2
      have := modeq_of_dvd (a := a * x) (b := 1) (by rw [hr] at h3; exact_mod_cast h3)
      rw [Nat.mul_comm, this]
      exact Nat.mod_eq_of_lt hm.1
    · rw [wrong_eq, if_neg h0, if_pos (h1 ▸ hr)]; rfl

end
end Go.Proofs
