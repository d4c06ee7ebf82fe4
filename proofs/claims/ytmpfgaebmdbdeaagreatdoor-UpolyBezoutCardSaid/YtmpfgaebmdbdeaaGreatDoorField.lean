/- A new field; Montgomery's forms; the inverses of many. -/
import Derived.Test.YtmpfgaebmdbdeaaGreatDoorForm
set_option linter.unusedVariables false
namespace Go.Proofs
open Go Vinc

section
variable {m b t : Nat}

/-! ### a new field -/

theorem New_bad (h : ¬ MayM m) : CallSpec Tryz.pr.P Tryz.pr.G 49 [u64 m] (.tup 2 (two nilP (i64 1))) := by
  refine callSpec_of Tryz.pr Tryz.func49 rfl rfl rfl fun w0 ok0 hok hG => ?_
  refine ev_rs [] rfl trivial ?_
  refine ev_seq (ev_rs [] rfl ⟨⟨fun _ => rfl, gd_f⟩, by simp⟩ (ev_ct ?_ ?_))
  · refine congrArg (fun b => AV.p (.val (.bool b))) (a₁ := bif decide ((m : Int) < 2) then true else decide ((m : Int) ≥ 9223372036854775808)) (a₂ := true) ?_
    by_cases h1 : m < 2
    · rw [decide_eq_true (by omega : (m : Int) < 2)]; rfl
    · rw [decide_eq_false (by omega : ¬ (m : Int) < 2)]
      exact decide_eq_true (by have : ¬ m < 9223372036854775808 := fun e => h ⟨by omega, e⟩
                               omega)
  exact ev_rs [] rfl trivial (ev_ret (ret2 (fz_p (PLe.refl _)) (fz_p (PLe.refl _))))

/-- A step of an inverse modulo W. -/
theorem newton_step {W m i E F c g : Nat} (hW : 0 < W) (hEF : E * E = F * c) (hF : F * g = W) (h : (E : Int) ∣ (m : Int) * i - 1) :
    (F : Int) ∣ (m : Int) * ((i * ((2 + (W - m * i % W)) % W) % W : Nat) : Int) - 1 := by
  obtain ⟨k, hk⟩ := h
  have hlt : m * i % W < W := Nat.mod_lt _ hW
  have h1 := Nat.div_add_mod (m * i) W
  generalize m * i % W = r at h1 hlt ⊢
  generalize m * i / W = q1 at h1 ⊢
  have h2 := Nat.div_add_mod (2 + (W - r)) W
  have e2 : ((2 + (W - r) : Nat) : Int) = 2 + W - r := by omega
  generalize 2 + (W - r) = z at h2 e2 ⊢
  generalize z % W = A at h2 ⊢
  generalize z / W = q2 at h2 ⊢
  have h3 := Nat.div_add_mod (i * A) W
  generalize i * A % W = I at h3 ⊢
  generalize i * A / W = q3 at h3 ⊢
  have h1' : (r : Int) = m * i - W * q1 := by
    have : (W : Int) * q1 + r = m * i := by exact_mod_cast h1
    omega
  have h2' : (A : Int) = z - W * q2 := by
    have : (W : Int) * q2 + A = z := by exact_mod_cast h2
    omega
  have h3' : (I : Int) = i * A - W * q3 := by
    have : (W : Int) * q3 + I = i * A := by exact_mod_cast h3
    omega
  have hEF' : (E : Int) * E = F * c := by exact_mod_cast hEF
  have hF' : (W : Int) = F * g := by exact_mod_cast hF.symm
  have e4 : (m : Int) * I - 1 = -(E * k) * (E * k) + W * (m * i * (1 + q1 - q2) - m * q3) := by
    rw [h3', h2', e2, h1', ← hk]
    grind
  have e5 : (E * k) * (E * k) = F * (c * k * k) := by
    rw [show (E * k) * (E * k) = (E * E) * (k * k) by grind, hEF']
    grind
  refine ⟨- (c * k * k) + g * (m * i * (1 + q1 - q2) - m * q3), ?_⟩
  rw [e4, Int.neg_mul, e5, hF']
  grind

theorem odd_sq {m : Nat} (h : m % 2 = 1) : (8 : Int) ∣ (m : Int) * m - 1 := by
  obtain ⟨j, rfl⟩ : ∃ j, m = 2 * j + 1 := ⟨m / 2, by omega⟩
  have h2 : j % 2 = 0 ∨ j % 2 = 1 := by omega
  rcases h2 with h2 | h2
  · obtain ⟨k, rfl⟩ : ∃ k, j = 2 * k := ⟨j / 2, by omega⟩
    exact ⟨k * (2 * k + 1), by push_cast; grind⟩
  · obtain ⟨k, rfl⟩ : ∃ k, j = 2 * k + 1 := ⟨j / 2, by omega⟩
    exact ⟨(2 * k + 1) * (k + 1), by push_cast; grind⟩

/-- How many places are right behind k steps. -/
def exq : Nat → Nat
  | 0 => 3
  | 1 => 6
  | 2 => 12
  | 3 => 24
  | 4 => 48
  | _ => 64

theorem exq_step {k i : Nat} (hk : k < 5) (h : ((2 ^ exq k : Nat) : Int) ∣ (m : Int) * i - 1) :
    ((2 ^ exq (k + 1) : Nat) : Int) ∣ (m : Int) * ((i * ((2 + (18446744073709551616 - m * i % 18446744073709551616)) % 18446744073709551616) % 18446744073709551616 : Nat) : Int) - 1 := by
  match k, hk with
  | 0, _ => exact newton_step (c := 1) (g := 2 ^ 58) (by decide) (by decide) (by decide) h
  | 1, _ => exact newton_step (c := 1) (g := 2 ^ 52) (by decide) (by decide) (by decide) h
  | 2, _ => exact newton_step (c := 1) (g := 2 ^ 40) (by decide) (by decide) (by decide) h
  | 3, _ => exact newton_step (c := 1) (g := 2 ^ 16) (by decide) (by decide) (by decide) h
  | 4, _ => exact newton_step (c := 2 ^ 32) (g := 1) (by decide) (by decide) (by decide) h

theorem minv64 {i : Nat} (hi : i < 18446744073709551616) (h : ((18446744073709551616 : Nat) : Int) ∣ (m : Int) * i - 1) : minv 18446744073709551616 m = i := by
  apply minv_eq hi
  have := modeq_of_dvd (a := m * i) (b := 1) (by exact_mod_cast h)
  rw [this]

theorem back_ok {i : Nat} (hi : i < 18446744073709551616) (h : ((18446744073709551616 : Nat) : Int) ∣ (m : Int) * i - 1) : (m * (18446744073709551616 - i) + 1) % 18446744073709551616 = 0 := by
  obtain ⟨k, hk⟩ := h
  apply Nat.mod_eq_zero_of_dvd
  have : ((18446744073709551616 : Nat) : Int) ∣ ((m * (18446744073709551616 - i) + 1 : Nat) : Int) := by
    refine ⟨m - k, ?_⟩
    have e : ((m * (18446744073709551616 - i) + 1 : Nat) : Int) = m * (((18446744073709551616 : Nat) : Int) - i) + 1 := by
      rw [Int.natCast_add, Int.natCast_mul, Int.natCast_sub (by omega)]
      rfl
    rw [e]
    generalize ((18446744073709551616 : Nat) : Int) = W at hk ⊢
    grind
  exact Int.natCast_dvd_natCast.mp this

theorem New_spec (hm : MayM m) : CallSpec Tryz.pr.P Tryz.pr.G 49 [u64 m] (.tup 2 (two (newF m) (i64 0))) := by
  have hm2 := hm.2
  have hm1 := hm.1
  refine callSpec_of Tryz.pr Tryz.func49 rfl rfl rfl fun w0 ok0 hok hG => ?_
  refine ev_rs [] rfl trivial ?_
  refine ev_seq (ev_rs [] rfl ⟨⟨fun _ => rfl, gd_f⟩, by simp⟩ (ev_cf ?_ (ev_sk ?_)))
  · refine congrArg (fun b => AV.p (.val (.bool b))) (a₁ := bif decide ((m : Int) < 2) then true else decide ((m : Int) ≥ 9223372036854775808)) (a₂ := false) ?_
    rw [decide_eq_false (by omega : ¬ (m : Int) < 2)]
    exact decide_eq_false (by omega)
  refine ev_rs [] rfl trivial ?_
  refine ev_at (α := Unit) (fun _ => True) (fun _ => [(4, .oat 15 0)]) (fun _ => [(15, ob3 (u64 m) (u64 (bk m)) (u64 (tw m)))]) ?_ ?_
  · refine ev_rs [] rfl trivial (ev_cond rfl (fun h => ?_) (fun h => ?_))
    · have h' := beq_iff_eq.mp h
      rw [and1 m (by omega)] at h'
      have ho : m % 2 = 1 := Int.ofNat_inj.mp h'
      refine ev_rs [] rfl trivial ?_
      refine ev_at (α := Nat) (fun i => i < 18446744073709551616 ∧ ((18446744073709551616 : Nat) : Int) ∣ (m : Int) * i - 1) (fun i => [(0, .p (u64 m)), (4, .oat 15 0), (5, .p (u64 i))]) (fun _ => [(15, ob3 (u64 m) (u64 0) (u64 0))]) ?_ ?_
      · refine ev_rs [] rfl trivial ?_
        refine ev_block (ev_while (α := Nat × Nat) (fun p => p.1 ≤ 5 ∧ p.2 < 18446744073709551616 ∧ ((2 ^ exq p.1 : Nat) : Int) ∣ (m : Int) * p.2 - 1)
          (fun p => [(0, .p (u64 m)), (4, .oat 15 0), (5, .p (u64 p.2)), (20, .p (i64 p.1))]) (fun _ => [(15, ob3 (u64 m) (u64 0) (u64 0))]) (fun p => 5 - p.1) (0, m) ⟨Nat.zero_le _, by dsimp only; omega, odd_sq ho⟩
          (wk1 _ rfl (Nat.le_refl _) (fun hd => cells3 (le_refl hd _) (le_refl hd _) (le_refl hd _)) (fun hd => ⟨le_refl hd _, le_a rfl, le_refl hd _, le_refl hd _, trivial⟩)) ?_)
        rintro ⟨k, i⟩ ⟨h1, h2, h3⟩
        dsimp only at h1 h2 h3
        refine ev_rs [] rfl trivial (ev_seq (ev_cond rfl (fun h => ev_sk ?_) (fun h => ev_exit ?_)))
        · have hk : k < 5 := Int.ofNat_lt.mp (of_decide_eq_true h)
          refine ev_seq (ev_block (ev_region [] rfl trivial ?_))
          refine ev_region [] rfl trivial ⟨(k + 1, i * ((2 + (18446744073709551616 - m * i % 18446744073709551616)) % 18446744073709551616) % 18446744073709551616), ⟨by dsimp only; omega, Nat.mod_lt _ (by decide), exq_step hk h3⟩, by dsimp only; omega,
            wk1 _ rfl (Nat.le_refl _) (fun hd j hj => le_refl hd _) (fun hd => ⟨le_refl hd _, le_a rfl, le_n hd (congrArg (fun z => PV.val (.int .u64 z)) ?_), le_n hd (congrArg (fun z => PV.val (.int .i64 z)) ?_), trivial⟩)⟩
          · show IntKind.wrap .u64 ((i : Int) * IntKind.wrap .u64 (((2 : Nat) : Int) - IntKind.wrap .u64 ((m : Int) * (i : Int)))) = _
            rw [wrapMul, wrapSub' _ _ (Nat.le_of_lt (Nat.mod_lt _ (by decide))), wrapMul]
          · exact wrapI _ (by dsimp only; omega) (by dsimp only; omega)
        · have hk : k = 5 := by
            have := of_decide_eq_false h
            dsimp only at this
            omega
          subst hk
          exact at1 i ⟨h2, h3⟩ _ rfl (Nat.le_refl _) (fun hd j hj => le_refl hd _) (fun hd => ⟨le_refl hd _, le_a rfl, le_refl hd _, trivial⟩)
      rintro i ⟨hi, hd⟩
      have hmi := minv64 hi hd
      have hi0 : 0 < i := by
        rcases Nat.eq_zero_or_pos i with h0 | h0
        · subst h0
          obtain ⟨k, hk⟩ := hd
          omega
        · exact h0
      have hbk : bk m = 18446744073709551616 - i := by unfold bk; rw [if_pos ho, hmi]
      refine ev_rs [] rfl ⟨leb rfl, trivial⟩ ?_
      refine ev_rs [] rfl ⟨by omega, trivial⟩ (ev_n 6 (18446744073709551616 % m) rfl ?_ ?_)
      · have e : IntKind.wrap .u64 (0 - (m : Int)) = ((18446744073709551616 - m : Nat) : Int) := by rw [wrap64]; omega
        rw [e, tmodN]
        have e2 : 18446744073709551616 = (18446744073709551616 - m) + m := by omega
        exact toN (by conv => rhs; rw [e2, Nat.add_mod_right])
      refine ev_region [u64 (tw m)] rfl ⟨leb rfl, ⟨⟨trivial, trivial⟩, .inl ?_⟩, trivial⟩ ?_
      · have hs := Mul_spec (b := bk m) (t := 0) hm (18446744073709551616 % m) (18446744073709551616 % m)
        have ht : 18446744073709551616 % m * (18446744073709551616 % m) % m = tw m := by
          unfold tw; rw [if_pos ho, ← Nat.mul_mod]
        rw [ht] at hs
        refine callSpec_args (as' := [fld m (bk m) 0, u64 (18446744073709551616 % m), u64 (18446744073709551616 % m)]) ⟨PLe.ptr (fun j hj => ?_), PLe.refl _, PLe.refl _, trivial⟩ hs
        match j, hj with
        | 0, _ => exact PLe.refl _
        | 1, _ =>
          refine PLe.of_eq (congrArg (fun z => PV.val (.int .u64 z)) (a₁ := IntKind.wrap .u64 (0 - (i : Int))) ?_)
          rw [wrap64, hbk]; omega
        | 2, _ => exact PLe.refl _
      · refine at1 () trivial _ rfl (Nat.le_refl _) (fun hd => cells3 (le_refl hd _) (le_n hd (congrArg (fun z => PV.val (.int .u64 z)) (a₁ := IntKind.wrap .u64 (0 - (i : Int))) ?_)) (le_refl hd _)) (fun hd => ⟨le_a rfl, trivial⟩)
        rw [wrap64, hbk]; omega
    · have h' := beq_eq_false_iff_ne.mp h
      rw [and1 m (by omega)] at h'
      have ho : ¬ m % 2 = 1 := fun e => h' (Int.ofNat_inj.mpr e)
      have hb : bk m = 0 := if_neg ho
      have ht : tw m = 0 := if_neg ho
      exact ev_skip (at1 () trivial _ rfl (Nat.le_refl _) (fun hd => cells3 (le_refl hd _) (le_n hd (by rw [hb]; rfl)) (le_n hd (by rw [ht]; rfl))) (fun hd => ⟨le_a rfl, trivial⟩))
  · rintro ⟨⟩ -
    refine ev_rs [] rfl trivial ?_
    refine ev_ret (ret2 (fz_oat rfl (Nat.le_refl _) (fun j hj => fz_p (PLe.refl _))) (fz_p (PLe.refl _)))

end
end Go.Proofs
