/- The document's answers of chapter 3, and powers. -/
import Derived.Test.YtmpfgaebmdbdeaaGreatDoorWord
set_option linter.unusedVariables false
namespace Go.Proofs
open Go Vinc

theorem RefAdd_spec {m : Nat} (hm : MayM m) (x y : Nat) : CallSpec Tryz.pr.P Tryz.pr.G 23 [u64 x, u64 y, u64 m] (u64 ((x + y) % m)) := by
  have hm0 : m ≠ 0 := by have := hm.1; omega
  have hm2 := hm.2
  have hx : x % m < m := Nat.mod_lt _ (by omega)
  have hy : y % m < m := Nat.mod_lt _ (by omega)
  refine callSpec_of Tryz.pr Tryz.func23 rfl rfl rfl fun w0 ok0 hok hG => ?_
  refine ev_rs [] rfl trivial ?_
  refine ev_ds [] (by kernel_rfl) rfl rfl ⟨by simpa using hm0, by simpa using hm0, by simpa using hm0, trivial⟩ ?_
  refine ev_ret (ret1 (fz_p (PLe.of_eq (congrArg (fun z => PV.val (.int .u64 z)) ?_))))
  show Int.tmod (IntKind.wrap .u64 (((x % m : Nat) : Int) + ((y % m : Nat) : Int))) (m : Int) = _
  rw [wrapAdd, Nat.mod_eq_of_lt (by omega : x % m + y % m < _), tmodN, ← Nat.add_mod]

/-- One step of a product by doubling. -/
theorem mul_step (o x y m t : Nat) (h : (o + x * y) % m = t) : ((if y % 2 = 1 then (o + x) % m else o) + (x + x) % m * (y / 2)) % m = t := by
  have hy := Nat.div_add_mod y 2
  have h0 : ((x + x) % m * (y / 2)) % m = ((x + x) * (y / 2)) % m := Nat.mod_mul_mod _ _ _
  split
  · rename_i h1
    have e : o + x * y = (o + x) + (x + x) * (y / 2) := by
      rw [h1] at hy
      generalize y / 2 = k at hy ⊢
      rw [← hy]
      grind
    rw [← h, e, Nat.add_mod, h0, Nat.mod_mod, ← Nat.add_mod]
  · rename_i h1
    have e : o + x * y = o + (x + x) * (y / 2) := by
      have h2 : y % 2 = 0 := by omega
      rw [h2] at hy
      generalize y / 2 = k at hy ⊢
      rw [← hy]
      grind
    rw [← h, e, Nat.add_mod, h0, ← Nat.add_mod]

theorem RefMul_spec {m : Nat} (hm : MayM m) (x y : Nat) (hy : y < 18446744073709551616) : CallSpec Tryz.pr.P Tryz.pr.G 22 [u64 x, u64 y, u64 m] (u64 (x * y % m)) := by
  have hm0 : m ≠ 0 := by have := hm.1; omega
  have hm2 := hm.2
  have hmp : 0 < m := by omega
  refine callSpec_of Tryz.pr Tryz.func22 rfl rfl rfl fun w0 ok0 hok hG => ?_
  refine ev_rs [] rfl trivial ?_
  refine ev_rs [] rfl trivial ?_
  refine ev_rs [] rfl ⟨by simpa using hm0, trivial⟩ ?_
  refine ev_rs [] rfl ⟨by simpa using hm0, trivial⟩ ?_
  refine ev_at (α := Unit) (fun _ => True) (fun _ => [(7, .p (u64 (x * y % m)))]) (fun _ => []) ?_ ?_
  · refine ev_block (ev_while0 (α := Nat × Nat × Nat) (fun p => p.1 < m ∧ (p.1 + p.2.1 * p.2.2) % m = x * y % m ∧ p.2.2 < 18446744073709551616)
      (fun p => [(0, .p (u64 p.2.1)), (1, .p (u64 p.2.2)), (2, .p (u64 m)), (7, .p (u64 p.1))]) (fun p => p.2.2) (0, x % m, y % m)
      ⟨hmp, by rw [Nat.zero_add, ← Nat.mul_mod], Nat.lt_of_le_of_lt (Nat.mod_le _ _) hy⟩ ⟨le_0, le_0, le_0, le_0, trivial⟩ ?_)
    rintro ⟨o, a, k⟩ ⟨h1, h2, h3⟩
    dsimp only at h1 h2 h3
    refine ev_seq (ev_rs [] rfl trivial (ev_cond rfl (fun h => ev_sk ?_) (fun h => ev_exit ?_)))
    · have hk : 0 < k := Int.ofNat_lt.mp (of_decide_eq_true h)
      refine ev_block ?_
      refine ev_at (α := Unit) (fun _ => True) (fun _ => [(0, .p (u64 a)), (1, .p (u64 k)), (2, .p (u64 m)), (7, .p (u64 (if k % 2 = 1 then (o + a) % m else o)))]) (fun _ => []) ?_ ?_
      · refine ev_rs [] rfl ⟨by decide, trivial⟩ (ev_cond rfl (fun h => ?_) (fun h => ?_))
        · have hk1 : k % 2 = 1 := Int.ofNat_inj.mp (beq_iff_eq.mp h)
          refine ev_region [u64 ((o + a) % m)] rfl ⟨.inl (RefAdd_spec hm o a), trivial⟩ (at0 () trivial ⟨le_0, le_0, le_0, le_e (congrArg u64 ?_), trivial⟩)
          rw [if_pos hk1]
        · have hk1 : ¬ k % 2 = 1 := fun e => (beq_eq_false_iff_ne.mp h) (Int.ofNat_inj.mpr e)
          refine ev_skip (at0 () trivial ⟨le_0, le_0, le_0, le_e (congrArg u64 ?_), trivial⟩)
          rw [if_neg hk1]
      rintro ⟨⟩ -
      refine ev_rs [u64 ((a + a) % m)] rfl ⟨.inl (RefAdd_spec hm a a), trivial⟩ ?_
      refine ev_region [] rfl ⟨by decide, trivial⟩ (round0 (if k % 2 = 1 then (o + a) % m else o, (a + a) % m, k / 2) ⟨?_, mul_step _ _ _ _ _ h2, by dsimp only; omega⟩ (by dsimp only; omega)
        ⟨le_0, le_e (congrArg (fun z => PV.val (.int .u64 z)) (tdivN k 2 h3)), le_0, le_0, trivial⟩)
      dsimp only
      split
      · exact Nat.mod_lt _ hmp
      · exact h1
    · have hk : k = 0 := by
        have := of_decide_eq_false h
        dsimp only at this
        omega
      refine at0 () trivial ⟨le_e (congrArg u64 ?_), trivial⟩
      rw [hk, Nat.mul_zero, Nat.add_zero, Nat.mod_eq_of_lt h1] at h2
      exact h2
  rintro ⟨⟩ -
  refine ev_rs [] rfl trivial ?_
  exact ev_ret (ret1 (fz_p (PLe.refl _)))

/-- One step of a power by squaring. -/
theorem pow_step (o x n m t : Nat) (h : (o * x ^ n) % m = t) : ((if n % 2 = 1 then o * x % m else o) * (x * x % m) ^ (n / 2)) % m = t := by
  have hn := Nat.div_add_mod n 2
  have h0 : ∀ a, (a * (x * x % m) ^ (n / 2)) % m = (a * (x * x) ^ (n / 2)) % m := fun a => by
    rw [Nat.mul_mod, Nat.pow_mod (x * x % m), Nat.mod_mod, ← Nat.pow_mod, ← Nat.mul_mod]
  rw [h0]
  have e2 : (x * x) ^ (n / 2) = x ^ (2 * (n / 2)) := by rw [Nat.pow_mul, Nat.pow_two]
  rw [e2]
  split
  · rename_i h1
    rw [Nat.mod_mul_mod, Nat.mul_assoc, ← Nat.pow_succ', ← h]
    congr 3
    omega
  · rw [← h]
    congr 3
    omega

/-- What is wrong with a number that is to be inverted. -/
def wrong (x m : Nat) : Nat := if x % m = 0 then 10 else if Nat.gcd (x % m) m = 1 then 0 else 11

/-- May a word be a modulus? -/
def mayB (m : Nat) : Bool := decide (2 ≤ m) && decide (m < 9223372036854775808)

theorem mayB_iff (m : Nat) : mayB m = true ↔ MayM m := by
  unfold mayB MayM
  simp only [Bool.and_eq_true, decide_eq_true_eq]

end Go.Proofs
