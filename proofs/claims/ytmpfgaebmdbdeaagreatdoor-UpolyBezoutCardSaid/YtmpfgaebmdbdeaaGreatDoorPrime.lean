/- The test of primes. -/
import Derived.Test.YtmpfgaebmdbdeaaGreatDoorField
import Derived.Test.YtmpfgaebmdbdeaaGreatDoorVincMr
set_option linter.unusedVariables false
namespace Go.Proofs
open Go Vinc Vinc.Num

theorem and_neg64 (k j : Nat) (h : 2 ^ k * (2 * j + 1) < 18446744073709551616) :
    bitI .and .u64 ((2 ^ k * (2 * j + 1) : Nat) : Int) (((18446744073709551616 - 2 ^ k * (2 * j + 1) : Nat)) : Int) = ((2 ^ k : Nat) : Int) := by
  have h1 := and_neg k j 64 h
  have hp := Nat.two_pow_pos k
  have hle : 2 ^ k * 1 ≤ 2 ^ k * (2 * j + 1) := Nat.mul_le_mul_left _ (by omega)
  generalize 2 ^ k * (2 * j + 1) = x at h h1 hle ⊢
  show IntKind.wrap .u64 (((BitVec.ofInt 64 (x : Int) &&& BitVec.ofInt 64 ((18446744073709551616 - x : Nat) : Int)).toNat : Nat) : Int) = _
  rw [BitVec.toNat_and, BitVec.ofInt_natCast, BitVec.ofInt_natCast, BitVec.toNat_ofNat, BitVec.toNat_ofNat, Nat.mod_eq_of_lt (by omega : x < 2 ^ 64), Nat.mod_eq_of_lt (by omega : 18446744073709551616 - x < 2 ^ 64)]
  have h2 : x &&& (18446744073709551616 - x) = 2 ^ k := h1
  rw [h2, wrapN, Nat.mod_eq_of_lt (by omega)]

theorem TrailingZeros64_spec (k j : Nat) (hx : 2 ^ k * (2 * j + 1) < 18446744073709551616) : CallSpec Tryz.pr.P Tryz.pr.G 62 [u64 (2 ^ k * (2 * j + 1))] (i64 k) := by
  have hp := Nat.two_pow_pos k
  have hle : 2 ^ k * 1 ≤ 2 ^ k * (2 * j + 1) := Nat.mul_le_mul_left _ (by omega)
  have han := and_neg64 k j hx
  have hk : k < 64 := by
    by_cases h : k < 64
    · exact h
    · have h2 : 2 ^ 64 ≤ 2 ^ k := Nat.pow_le_pow_right (by omega) (by omega)
      omega
  obtain ⟨ht, hi⟩ := tab64_at k hk
  obtain ⟨x, ex⟩ : ∃ x, 2 ^ k * (2 * j + 1) = x := ⟨_, rfl⟩
  rw [ex] at hx hle han ⊢
  obtain ⟨q, eq⟩ : ∃ q, 2 ^ k * 285870213051353865 % 18446744073709551616 / 2 ^ 58 = q := ⟨_, rfl⟩
  rw [eq] at ht hi
  have hidx : (IntKind.wrap .u64 (bitI .and .u64 (x : Int) (IntKind.wrap .u64 (0 - (x : Int))) * 285870213051353865)).fdiv (2 ^ (min (Int.toNat 58) (IntKind.bits .u64))) = (q : Int) := by
    have e1 : IntKind.wrap .u64 (0 - (x : Int)) = ((18446744073709551616 - x : Nat) : Int) := by rw [wrap64]; omega
    have e2 : (285870213051353865 : Int) = ((285870213051353865 : Nat) : Int) := rfl
    rw [e1, han, e2, wrapMul]
    exact (shrN _ 58 (by decide)).trans (by rw [eq])
  refine callSpec_of Tryz.pr Tryz.func62 rfl rfl rfl fun w0 ok0 hok hG => ?_
  refine ev_rs [] rfl trivial ?_
  refine ev_seq (ev_rs [] rfl trivial (ev_cond rfl (fun h => absurd h (by simp; omega)) (fun _ => ev_sk ?_)))
  refine ev_rs [] rfl ?_ ?_
  · exact ⟨by rw [hidx]; exact hi, by rw [hidx]; omega, by decide, trivial⟩
  refine ev_ret (ret1 (fz_p (PLe.of_eq (congrArg (fun z => PV.val (.int .i64 z)) ?_))))
  rw [hidx]
  show IntKind.wrap .i64 ((tab64.getD q 0 : Nat) : Int) = _
  rw [ht]
  exact wrapI _ (by omega) (by omega)

theorem primeMul_spec (x y n : Nat) (hx : x < 18446744073709551616) (hy : y < 18446744073709551616) (hn : n ≠ 0) (hn' : n < 18446744073709551616) :
    CallSpec Tryz.pr.P Tryz.pr.G 63 [u64 x, u64 y, u64 n] (u64 (x * y % n)) := by
  refine callSpec_of Tryz.pr Tryz.func63 rfl rfl rfl fun w0 ok0 hok hG => ?_
  refine ev_rs [] rfl trivial ?_
  refine ev_rs [.tup 2 (two (u64 (x * y / 18446744073709551616)) (u64 (x * y % 18446744073709551616)))] rfl ⟨.inl (Mul64_spec x y hx hy), trivial⟩ ?_
  refine ev_rs [u64 (x * y % n)] rfl ⟨.inl ?_, trivial⟩ ?_
  · have h := Rem64_spec (x * y / 18446744073709551616) (x * y % 18446744073709551616) n hn (Nat.mod_lt _ (by decide)) hn'
    rw [Nat.mul_comm (_ / _), Nat.div_add_mod] at h
    exact h
  exact ev_ret (ret1 (fz_p (PLe.refl _)))

/-- The bases, as the test has them. -/
abbrev basesV : PV := .agg 12 (fun j => u64 (bases.getD j 0))

theorem bases_spec : CallSpec Tryz.pr.P Tryz.pr.G 55 [] basesV := by
  refine callSpec_of Tryz.pr Tryz.func55 rfl rfl rfl fun w0 ok0 hok hG => ?_
  refine ev_rs [] rfl trivial ?_
  refine ev_rs [] rfl ⟨leb rfl, trivial⟩ ?_
  refine ev_ret (ret_cell' (n := 12) (id := 0) rfl rfl rfl rfl rfl (leb rfl) (fun j hj => ?_))
  match j, hj with
  | 0, _ | 1, _ | 2, _ | 3, _ | 4, _ | 5, _ | 6, _ | 7, _ | 8, _ | 9, _ | 10, _ | 11, _ => exact fz_p (PLe.refl _)

theorem strong_spec (n b : Nat) (hn : 2 ≤ n) (hn64 : n < 18446744073709551616) (hb : b < 18446744073709551616) : CallSpec Tryz.pr.P Tryz.pr.G 56 [u64 n, u64 b] (bool (strongB n b)) := by
  have hn0 : n ≠ 0 := by omega
  have hnp : 0 < n := by omega
  obtain ⟨k, j, e⟩ := exists_tz (n - 1) (by omega)
  have hp := Nat.two_pow_pos k
  have hle : 2 ^ k * 1 ≤ 2 ^ k * (2 * j + 1) := Nat.mul_le_mul_left _ (by omega)
  have hk : k < 64 := by
    by_cases h : k < 64
    · exact h
    · have h2 : 2 ^ 64 ≤ 2 ^ k := Nat.pow_le_pow_right (by omega) (by omega)
      omega
  have ht : tz (n - 1) = k := by unfold tz; rw [e]; exact tzF_eq 64 k j hk
  have hd : (n - 1) / 2 ^ k = 2 * j + 1 := by rw [e]; exact Nat.mul_div_cancel_left _ hp
  have hT := TrailingZeros64_spec k j (by omega)
  have hd64 : 2 * j + 1 < 18446744073709551616 := by rw [← hd]; exact Nat.lt_of_le_of_lt (Nat.div_le_self _ _) (by omega)
  have hS : strongB n b = bif Nat.beq (b ^ (2 * j + 1) % n) 1 then true else sqs n (b ^ (2 * j + 1) % n) k := by
    unfold strongB
    rw [ht, hd, pw64_eq hn hd64]
  have hw1 : IntKind.wrap .u64 ((n : Int) - 1) = ((n - 1 : Nat) : Int) := wrapSub n 1 (by omega) (by omega)
  have hwk : IntKind.wrap .u64 (k : Int) = (k : Int) := by rw [wrapN, Nat.mod_eq_of_lt (by omega)]
  rw [← e] at hT
  rw [hS]
  refine callSpec_of Tryz.pr Tryz.func56 rfl rfl rfl fun w0 ok0 hok hG => ?_
  refine ev_rs [] rfl trivial ?_
  refine ev_rs [i64 k] rfl ⟨.inl (by rw [hw1]; exact hT), trivial⟩ ?_
  refine ev_ds [] (by kernel_rfl) rfl rfl ⟨by simpa using hn0, trivial⟩ ?_
  refine ev_at (α := Unit) (fun _ => True) (fun _ => [(0, .p (u64 n)), (5, .p (i64 k)), (6, .p (u64 (b ^ (2 * j + 1) % n)))]) (fun _ => []) ?_ ?_
  · refine ev_rs [] rfl ⟨by rw [hwk]; omega, trivial⟩ (ev_n 8 (2 * j + 1) rfl (by rw [hw1, hwk]; exact (shrN _ k (by omega)).trans (by rw [hd])) ?_)
    refine ev_block (ev_while0 (α := Nat × Nat × Nat) (fun p => p.1 < n ∧ p.2.1 < n ∧ p.1 * p.2.1 ^ p.2.2 % n = b ^ (2 * j + 1) % n ∧ p.2.2 < 18446744073709551616)
      (fun p => [(0, .p (u64 n)), (5, .p (i64 k)), (6, .p (u64 p.1)), (7, .p (u64 p.2.1)), (8, .p (u64 p.2.2))]) (fun p => p.2.2) (1, b % n, 2 * j + 1)
      ⟨hn, Nat.mod_lt _ hnp, by dsimp only; rw [Nat.one_mul, ← Nat.pow_mod], hd64⟩ ⟨le_0, le_0, le_0, le_0, le_0, trivial⟩ ?_)
    rintro ⟨o, a, x⟩ ⟨h1, h2, h3, h4⟩
    dsimp only at h1 h2 h3 h4
    refine ev_seq (ev_rs [] rfl trivial (ev_cond rfl (fun h => ev_sk ?_) (fun h => ev_exit ?_)))
    · have hx : 0 < x := Int.ofNat_lt.mp (of_decide_eq_true h)
      refine ev_seq (ev_block ?_)
      refine ev_at (α := Unit) (fun _ => True) (fun _ => [(0, .p (u64 n)), (5, .p (i64 k)), (6, .p (u64 (if x % 2 = 1 then o * a % n else o))), (7, .p (u64 a)), (8, .p (u64 x))]) (fun _ => []) ?_ ?_
      · refine ev_rs [] rfl trivial (ev_cond rfl (fun h => ?_) (fun h => ?_))
        · have hx1 : x % 2 = 1 := by
            have := beq_iff_eq.mp h
            rw [and1 x h4] at this
            exact Int.ofNat_inj.mp this
          refine ev_region [u64 (o * a % n)] rfl ⟨.inl (primeMul_spec o a n (by omega) (by omega) hn0 hn64), trivial⟩ (at0 () trivial ⟨le_0, le_0, le_e (congrArg u64 ?_), le_0, le_0, trivial⟩)
          rw [if_pos hx1]
        · have hx1 : ¬ x % 2 = 1 := fun e => by
            have := beq_eq_false_iff_ne.mp h
            rw [and1 x h4] at this
            exact this (Int.ofNat_inj.mpr e)
          refine ev_skip (at0 () trivial ⟨le_0, le_0, le_e (congrArg u64 ?_), le_0, le_0, trivial⟩)
          rw [if_neg hx1]
      rintro ⟨⟩ -
      refine ev_region [u64 (a * a % n)] rfl ⟨.inl (primeMul_spec a a n (by omega) (by omega) hn0 hn64), trivial⟩ ?_
      refine ev_region [] rfl ⟨by decide, trivial⟩ (round0 (if x % 2 = 1 then o * a % n else o, a * a % n, x / 2) ⟨?_, Nat.mod_lt _ hnp, (pw_step o a x n).trans h3, by dsimp only; omega⟩ (by dsimp only; omega)
        ⟨le_0, le_0, le_0, le_0, le_e (congrArg (fun z => PV.val (.int .u64 z)) (shr1 x)), trivial⟩)
      dsimp only
      split
      · exact Nat.mod_lt _ hnp
      · exact h1
    · have hx : x = 0 := by
        have := of_decide_eq_false h
        dsimp only at this
        omega
      refine at0 () trivial ⟨le_0, le_0, le_e (congrArg u64 ?_), trivial⟩
      rw [hx, Nat.pow_zero, Nat.mul_one, Nat.mod_eq_of_lt h1] at h3
      exact h3
  rintro ⟨⟩ -
  have hx0 : b ^ (2 * j + 1) % n < n := Nat.mod_lt _ hnp
  generalize b ^ (2 * j + 1) % n = x0 at hx0
  refine ev_seq (ev_rs [] rfl trivial (ev_cond rfl (fun h => ?_) (fun h => ev_sk ?_)))
  · have h1 : x0 = 1 := Int.ofNat_inj.mp (beq_iff_eq.mp h)
    refine ev_rs [] rfl trivial (ev_ret (ret1 (fz_p (PLe.of_eq (congrArg Vinc.bool ?_)))))
    rw [h1]; rfl
  have h1 : ¬ x0 = 1 := fun e => (beq_eq_false_iff_ne.mp h) (Int.ofNat_inj.mpr e)
  have h2 : Nat.beq x0 1 = false := by
    cases hb : Nat.beq x0 1
    · rfl
    · exact absurd (Nat.eq_of_beq_eq_true hb) h1
  rw [h2]
  refine ev_at (α := Unit) (fun _ => sqs n x0 k = false) (fun _ => []) (fun _ => []) ?_ ?_
  · refine ev_rs [] rfl trivial ?_
    refine ev_block (ev_while0 (α := Nat × Nat) (fun p => p.1 ≤ k ∧ p.2 < n ∧ sqs n x0 k = sqs n p.2 (k - p.1)) (fun p => [(0, .p (u64 n)), (6, .p (u64 p.2)), (37, .p (i64 k)), (38, .p (i64 p.1))]) (fun p => k - p.1) (0, x0)
      ⟨Nat.zero_le _, hx0, rfl⟩ ⟨le_0, le_0, le_0, le_0, trivial⟩ ?_)
    rintro ⟨i, x⟩ ⟨h3, h4, h5⟩
    dsimp only at h3 h4 h5
    refine ev_rs [] rfl trivial (ev_seq (ev_cond rfl (fun h => ev_sk ?_) (fun h => ev_exit ?_)))
    · have hi : i < k := Int.ofNat_lt.mp (of_decide_eq_true h)
      obtain ⟨t, et⟩ : ∃ t, k - i = t + 1 := ⟨k - i - 1, by omega⟩
      rw [et, show sqs n x (t + 1) = bif Nat.beq x (n - 1) then true else sqs n (x * x % n) t from rfl] at h5
      refine ev_seq (ev_block ?_)
      refine ev_seq (ev_rs [] rfl trivial (ev_cond rfl (fun h => ?_) (fun h => ev_sk ?_)))
      · have h' := beq_iff_eq.mp h
        rw [hw1] at h'
        have hx : x = n - 1 := Int.ofNat_inj.mp h'
        refine ev_rs [] rfl trivial (ev_ret (ret1 (fz_p (PLe.of_eq (congrArg Vinc.bool ?_)))))
        rw [hx, Nat.beq_refl] at h5
        exact h5.symm
      · have h' := beq_eq_false_iff_ne.mp h
        rw [hw1] at h'
        have hx : Nat.beq x (n - 1) = false := by
          cases hb : Nat.beq x (n - 1)
          · rfl
          · exact absurd (Int.ofNat_inj.mpr (Nat.eq_of_beq_eq_true hb)) h'
        rw [hx] at h5
        refine ev_region [u64 (x * x % n)] rfl ⟨.inl (primeMul_spec x x n (by omega) (by omega) hn0 hn64), trivial⟩ ?_
        refine ev_region [] rfl trivial (round0 (i + 1, x * x % n) ⟨hi, Nat.mod_lt _ hnp, ?_⟩ (by dsimp only; omega) ⟨le_0, le_0, le_0, le_e (congrArg (fun z => PV.val (.int .i64 z)) (wrapI _ (by dsimp only; omega) (by dsimp only; omega))), trivial⟩)
        dsimp only
        rw [show k - (i + 1) = t by omega]
        exact h5
    · have hi : k - i = 0 := by
        have := of_decide_eq_false h
        dsimp only at this
        omega
      rw [hi] at h5
      exact at0 () h5 trivial
  rintro ⟨⟩ h3
  refine ev_rs [] rfl trivial (ev_ret (ret1 (fz_p (PLe.of_eq (congrArg Vinc.bool ?_)))))
  rw [h3]; rfl

theorem bases_drop : ∀ i, i < 12 → bases.drop i = bases.getD i 0 :: bases.drop (i + 1) := by decide

theorem bases_lt : ∀ i, i < 12 → 2 ≤ bases.getD i 0 ∧ bases.getD i 0 < 38 := by decide

theorem beq_cast (a b : Nat) : ((a : Int) == (b : Int)) = Nat.beq a b := by
  cases h : Nat.beq a b
  · exact beq_eq_false_iff_ne.mpr fun e => Nat.ne_of_beq_eq_false h (Int.ofNat_inj.mp e)
  · exact beq_iff_eq.mpr (Int.ofNat_inj.mpr (Nat.eq_of_beq_eq_true h))

theorem Is_spec (n : Nat) (hn64 : n < 18446744073709551616) : CallSpec Tryz.pr.P Tryz.pr.G 48 [u64 n] (bool (isB n)) := by
  refine callSpec_of Tryz.pr Tryz.func48 rfl rfl rfl fun w0 ok0 hok hG => ?_
  refine ev_rs [] rfl trivial ?_
  refine ev_seq (ev_rs [] rfl trivial (ev_cond rfl (fun h => ?_) (fun h => ev_sk ?_)))
  · have hn : n < 2 := Int.ofNat_lt.mp (of_decide_eq_true h)
    have hb : isB n = false := by
      unfold isB
      rw [Nat.blt_eq.mpr hn]; rfl
    rw [hb]
    exact ev_rs [] rfl trivial (ev_ret (ret1 (fz_p (PLe.refl _))))
  have hn : 2 ≤ n := by
    have := of_decide_eq_false h
    omega
  have hlt : Nat.blt n 2 = false := by
    cases hb : Nat.blt n 2
    · rfl
    · have := Nat.blt_eq.mp hb
      omega
  have hI : isB n = match divB n bases with
    | some r => r
    | none => strongs n bases := by
    unfold isB
    rw [hlt]; rfl
  rw [hI]
  refine ev_at (α := Unit) (fun _ => divB n bases = none) (fun _ => [(0, .p (u64 n))]) (fun _ => []) ?_ ?_
  · refine ev_rs [basesV] rfl ⟨.inl bases_spec, trivial⟩ ?_
    refine ev_block (ev_while0 (α := Nat) (fun i => i ≤ 12 ∧ divB n bases = divB n (bases.drop i)) (fun i => [(0, .p (u64 n)), (9, .p basesV), (10, .p (i64 i))]) (fun i => 12 - i) 0
      ⟨by decide, rfl⟩ ⟨le_0, le_0, le_0, trivial⟩ ?_)
    rintro i ⟨h1, h2⟩
    refine ev_rs [] rfl trivial (ev_seq (ev_cond rfl (fun h => ev_sk ?_) (fun h => ev_exit ?_)))
    · have hi : i < 12 := Int.ofNat_lt.mp (of_decide_eq_true h)
      obtain ⟨hb1, hb2⟩ := bases_lt i hi
      have hb0 : (bases.getD i 0 : Int) ≠ 0 := by omega
      rw [bases_drop i hi, show divB n (bases.getD i 0 :: bases.drop (i + 1)) = bif Nat.beq (n % bases.getD i 0) 0 then some (Nat.beq n (bases.getD i 0)) else divB n (bases.drop (i + 1)) from rfl] at h2
      refine ev_seq (ev_block ?_)
      refine ev_rs [] rfl ⟨⟨⟨by omega, by omega⟩, hi⟩, trivial⟩ ?_
      refine ev_rs [] rfl ⟨hb0, trivial⟩ (ev_cond rfl (fun h => ?_) (fun h => ev_skip ?_))
      · have hd : n % bases.getD i 0 = 0 := Int.ofNat_inj.mp (beq_iff_eq.mp h)
        rw [hd] at h2
        rw [h2]
        refine ev_rs [] rfl trivial (ev_ret (ret1 (fz_p (PLe.of_eq (congrArg Vinc.bool ?_)))))
        exact beq_cast n _
      · have hd : Nat.beq (n % bases.getD i 0) 0 = false := by
          cases hb : Nat.beq (n % bases.getD i 0) 0
          · rfl
          · exact absurd (Int.ofNat_inj.mpr (Nat.eq_of_beq_eq_true hb)) (beq_eq_false_iff_ne.mp h)
        rw [hd] at h2
        exact ev_region [] rfl trivial (round0 (i + 1) ⟨hi, h2⟩ (by omega) ⟨le_0, le_0, le_e (congrArg (fun z => PV.val (.int .i64 z)) (wrapI _ (by omega) (by omega))), trivial⟩)
    · have hi : i = 12 := by
        have := of_decide_eq_false h
        omega
      subst hi
      exact at0 () h2 ⟨le_0, trivial⟩
  rintro ⟨⟩ hdn
  rw [hdn]
  refine ev_at (α := Unit) (fun _ => strongs n bases = true) (fun _ => []) (fun _ => []) ?_ ?_
  · refine ev_rs [basesV] rfl ⟨.inl bases_spec, trivial⟩ ?_
    refine ev_block (ev_while0 (α := Nat) (fun i => i ≤ 12 ∧ strongs n bases = strongs n (bases.drop i)) (fun i => [(0, .p (u64 n)), (21, .p basesV), (22, .p (i64 i))]) (fun i => 12 - i) 0
      ⟨by decide, rfl⟩ ⟨le_0, le_0, le_0, trivial⟩ ?_)
    rintro i ⟨h1, h2⟩
    refine ev_rs [] rfl trivial (ev_seq (ev_cond rfl (fun h => ev_sk ?_) (fun h => ev_exit ?_)))
    · have hi : i < 12 := Int.ofNat_lt.mp (of_decide_eq_true h)
      obtain ⟨hb1, hb2⟩ := bases_lt i hi
      rw [bases_drop i hi, show strongs n (bases.getD i 0 :: bases.drop (i + 1)) = bif strongB n (bases.getD i 0) then strongs n (bases.drop (i + 1)) else false from rfl] at h2
      refine ev_seq (ev_block ?_)
      refine ev_rs [] rfl ⟨⟨⟨by omega, by omega⟩, hi⟩, trivial⟩ ?_
      refine ev_rs [bool (strongB n (bases.getD i 0))] rfl ⟨.inl (strong_spec n _ hn hn64 (Nat.lt_trans hb2 (by decide))), trivial⟩ (ev_cond rfl (fun h => ?_) (fun h => ev_skip ?_))
      · rw [Bool.not_eq_true'] at h
        rw [h] at h2
        rw [h2]
        exact ev_rs [] rfl trivial (ev_ret (ret1 (fz_p (PLe.refl _))))
      · have h' : strongB n (bases.getD i 0) = true := by simpa using h
        rw [h'] at h2
        exact ev_region [] rfl trivial (round0 (i + 1) ⟨hi, h2⟩ (by omega) ⟨le_0, le_0, le_e (congrArg (fun z => PV.val (.int .i64 z)) (wrapI _ (by omega) (by omega))), trivial⟩)
    · have hi : i = 12 := by
        have := of_decide_eq_false h
        omega
      subst hi
      exact at0 () h2 trivial
  rintro ⟨⟩ hs
  rw [hs]
  exact ev_rs [] rfl trivial (ev_ret (ret1 (fz_p (PLe.refl _))))

/-- The primes that are asked. -/
def Asked (p : Nat) : Prop := p = 998244353 ∨ p = 9223372036854775783 ∨ p = 2305843009213693951 ∨ (p ≤ 100000 ∧ IsPrime p)

open Classical in
noncomputable def primeB (n : Nat) : Bool := decide (IsPrime n)

open Classical in
noncomputable def askedB (n : Nat) : Bool := decide (Asked n)

theorem primeB_f {n : Nat} (h : ¬ IsPrime n) : primeB n = false := by
  unfold primeB
  simp [h]

theorem primeB_t {n : Nat} (h : IsPrime n) : primeB n = true := by
  unfold primeB
  simp [h]

theorem askedB_f {n : Nat} (h : ¬ Asked n) : askedB n = false := by
  unfold askedB
  simp [h]

theorem askedB_t {n : Nat} (h : Asked n) : askedB n = true := by
  unfold askedB
  simp [h]

theorem asked_prime {p : Nat} (h : Asked p) : IsPrime p := by
  rcases h with rfl | rfl | rfl | h
  · exact great1
  · exact great3
  · exact great2
  · exact h.2

theorem asked_may {p : Nat} (h : Asked p) : MayM p := by
  have h1 := (asked_prime h).1
  refine ⟨h1, ?_⟩
  rcases h with rfl | rfl | rfl | h
  · decide
  · decide
  · decide
  · omega

theorem isB_asked {p : Nat} (h : Asked p) : isB p = true := isB_prime (asked_prime h) (by have := (asked_may h).2; omega)

/-- A small number that is not asked is told to be no prime. -/
theorem isB_not {p : Nat} (h : ¬ Asked p) (hp : p ≤ 100000) : isB p = false := by
  cases hb : isB p
  · rfl
  · exact absurd (.inr (.inr (.inr ⟨hp, isB_small hp hb⟩))) h

theorem RefIs_spec (n : Nat) (hn : n ≤ 100000) : CallSpec Tryz.pr.P Tryz.pr.G 50 [u64 n] (bool (primeB n)) := by
  refine callSpec_of Tryz.pr Tryz.func50 rfl rfl rfl fun w0 ok0 hok hG => ?_
  refine ev_rs [] rfl trivial ?_
  refine ev_seq (ev_rs [] rfl trivial (ev_cond rfl (fun h => ?_) (fun h => ev_sk ?_)))
  · have hn2 : n < 2 := Int.ofNat_lt.mp (of_decide_eq_true h)
    have hb : primeB n = false := primeB_f fun hp => by have := hp.1; omega
    rw [hb]
    exact ev_rs [] rfl trivial (ev_ret (ret1 (fz_p (PLe.refl _))))
  have hn2 : 2 ≤ n := by
    have := of_decide_eq_false h
    omega
  refine ev_at (α := Unit) (fun _ => IsPrime n) (fun _ => []) (fun _ => []) ?_ ?_
  · refine ev_rs [] rfl trivial ?_
    refine ev_block (ev_while0 (α := Nat) (fun d => 2 ≤ d ∧ d ≤ 100001 ∧ ∀ e, 2 ≤ e → e < d → ¬ e ∣ n) (fun d => [(0, .p (u64 n)), (3, .p (u64 d))]) (fun d => 100001 - d) 2
      ⟨by decide, by decide, fun e h1 h2 => by omega⟩ ⟨le_0, le_0, trivial⟩ ?_)
    rintro d ⟨h1, h2, h3⟩
    have hdd : d * d ≤ 100001 * 100001 := Nat.mul_le_mul h2 h2
    have hw : IntKind.wrap .u64 ((d : Int) * (d : Int)) = ((d * d : Nat) : Int) := by rw [wrapMul, Nat.mod_eq_of_lt (by omega)]
    have hd0 : (d : Int) ≠ 0 := by omega
    refine ev_seq (ev_rs [] rfl trivial (ev_cond rfl (fun h => ev_sk ?_) (fun h => ev_exit ?_)))
    · have h' := of_decide_eq_true h
      rw [hw] at h'
      have hle : d * d ≤ n := Int.ofNat_le.mp h'
      have hdn : d ≤ 100000 := by
        have : d * 1 ≤ d * d := Nat.mul_le_mul_left _ (by omega)
        omega
      refine ev_seq (ev_block ?_)
      refine ev_rs [] rfl ⟨hd0, trivial⟩ (ev_cond rfl (fun h => ?_) (fun h => ev_skip ?_))
      · have hd : n % d = 0 := Int.ofNat_inj.mp (beq_iff_eq.mp h)
        have hb : primeB n = false := primeB_f fun hp => by
          rcases hp.2 d (Nat.dvd_of_mod_eq_zero hd) with h4 | h4
          · omega
          · subst h4
            have : d * 2 ≤ d * d := Nat.mul_le_mul_left _ h1
            omega
        rw [hb]
        exact ev_rs [] rfl trivial (ev_ret (ret1 (fz_p (PLe.refl _))))
      · have hd : ¬ n % d = 0 := fun e => (beq_eq_false_iff_ne.mp h) (Int.ofNat_inj.mpr e)
        refine ev_region [] rfl trivial (round0 (d + 1) ⟨by omega, by omega, fun e h4 h5 => ?_⟩ (by omega) ⟨le_0, le_e (congrArg (fun z => PV.val (.int .u64 z)) ((wrapAdd d 1).trans (by rw [Nat.mod_eq_of_lt (by omega)]))), trivial⟩)
        rcases Nat.lt_or_ge e d with h6 | h6
        · exact h3 e h4 h6
        · rw [show e = d by omega]
          exact fun hdv => hd (Nat.mod_eq_zero_of_dvd hdv)
    · have h' := of_decide_eq_false h
      rw [hw] at h'
      have hgt : n < d * d := by
        rcases Nat.lt_or_ge n (d * d) with h4 | h4
        · exact h4
        · exact absurd (Int.ofNat_le.mpr h4) h'
      refine at0 () ?_ trivial
      obtain ⟨c, rfl⟩ : ∃ c, d = c + 1 := ⟨d - 1, by omega⟩
      refine prime_of_big hn2 hgt fun r hr hrn => ?_
      rcases Nat.lt_or_ge c r with h4 | h4
      · exact h4
      · exact absurd hrn (h3 r hr.1 (by omega))
  rintro ⟨⟩ hp
  have hb : primeB n = true := primeB_t hp
  rw [hb]
  exact ev_rs [] rfl trivial (ev_ret (ret1 (fz_p (PLe.refl _))))

theorem gd_a {a b : Bool} (h : a = true) (h' : b = true) : (a && (b == true)) = true := by rw [h, h']; rfl

theorem LawPrime_spec (p : Nat) : CallSpec Tryz.pr.P Tryz.pr.G 31 [u64 p] (bool (askedB p)) := by
  have key : (bif (bif (bif ((p : Int) == 998244353) then true else ((p : Int) == 9223372036854775783)) then true else ((p : Int) == 2305843009213693951)) then true else (bif decide ((p : Int) ≤ 100000) then primeB p else false)) = askedB p := by
    by_cases h1 : p = 998244353
    · subst h1; rw [askedB_t (.inl rfl)]; rfl
    by_cases h2 : p = 9223372036854775783
    · subst h2; rw [askedB_t (.inr (.inl rfl))]; rfl
    by_cases h3 : p = 2305843009213693951
    · subst h3; rw [askedB_t (.inr (.inr (.inl rfl)))]; rfl
    rw [beq_eq_false_iff_ne.mpr (by omega : (p : Int) ≠ 998244353), beq_eq_false_iff_ne.mpr (by omega : (p : Int) ≠ 9223372036854775783), beq_eq_false_iff_ne.mpr (by omega : (p : Int) ≠ 2305843009213693951)]
    simp only [cond_false]
    by_cases h4 : p ≤ 100000
    · rw [decide_eq_true (by omega : (p : Int) ≤ 100000)]
      simp only [cond_true]
      by_cases h5 : IsPrime p
      · rw [primeB_t h5, askedB_t (.inr (.inr (.inr ⟨h4, h5⟩)))]
      · rw [primeB_f h5, askedB_f]
        rintro (h | h | h | h)
        · exact h1 h
        · exact h2 h
        · exact h3 h
        · exact h5 h.2
    · rw [decide_eq_false (by omega : ¬ (p : Int) ≤ 100000), askedB_f]
      · rfl
      · rintro (h | h | h | h)
        · exact h1 h
        · exact h2 h
        · exact h3 h
        · exact h4 h.1
  refine callSpec_of Tryz.pr Tryz.func31 rfl rfl rfl fun w0 ok0 hok hG => ?_
  refine ev_rs [] rfl trivial ?_
  have hand : ∀ {a b : Bool}, (a && b) = true → a = true ∧ b = true := fun h => by simpa using h
  refine ev_rs [bool (primeB p)] rfl ?_ ?_
  · refine (by repeat' (first | exact trivial | exact gd_t | exact gd_f | exact .inl (RefIs_spec p (by have := of_decide_eq_true (beq_iff_eq.mp (hand (by assumption)).2); omega)) | exact (fun h => (hand h).1) | exact (fun h => (hand h).2) | exact gd_a (by assumption) (by assumption) | exact (fun _ => rfl) | intro _ | apply And.intro | assumption | exact rfl | exact gd_t (by assumption) | exact gd_f (by assumption) | exact gd_a (by assumption) (by assumption)))
  · exact ev_ret (ret1 (fz_p (PLe.of_eq (congrArg Vinc.bool key))))

end Go.Proofs
