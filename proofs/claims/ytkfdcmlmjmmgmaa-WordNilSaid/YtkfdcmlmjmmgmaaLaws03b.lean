/- Chapter 3: the walks of the statements on many inverses and on nil. -/
import Derived.Test.YtkfdcmlmjmmgmaaLaws03
set_option linter.unusedVariables false
set_option linter.unusedSimpArgs false
namespace Go.Proofs
open Go Vinc

theorem WordAll_spec (m : Nat) (xs : List Nat) (hm64 : m < 18446744073709551616) (hx64 : ∀ x, x ∈ xs → x < 18446744073709551616) : CallSpec Try.pr.P Try.pr.G 9 [u64 m, u64s xs] (bool true) := by
  by_cases hm : MayM m
  · refine callSpec_of Try.pr Try.func9 rfl rfl rfl fun w0 ok0 hok hG => ?_
    refine ev_rs [] rfl trivial ?_
    refine ev_rs [.tup 2 (two (newF m) (bool true))] rfl ⟨.inl (field_good hm), trivial⟩ ?_
    refine ev_seq (ev_rs [] rfl trivial (ev_cf rfl (ev_sk ?_)))
    refine ev_seq (ev_rs [] rfl (by repeat' (first | exact trivial | exact gd_t | exact gd_f | exact (fun _ => rfl) | intro _ | apply And.intro | assumption | exact rfl | exact gd_t (by assumption) | exact gd_f (by assumption))) (ev_cond rfl (fun h => ?_) (fun h => ev_sk ?_)))
    · refine ev_rs [bool true] rfl ⟨.inl awake_spec, trivial⟩ ?_
      exact ev_ret (ret1 (fz_p (PLe.refl _)))
    have hl : xs.length ≤ 100 := by
      have h' : decide ((xs.length : Int) > 100) = false := h
      have := of_decide_eq_false h'
      omega
    by_cases hf : firstW m xs = 0
    · -- all have an inverse
      have hw := firstW_eq_zero hf
      have hinv : ∀ j, j < xs.length → minv m (xs.getD j 0) < m ∧ xs.getD j 0 * minv m (xs.getD j 0) % m = 1 := fun j hj => minv_spec hm.1 ((wrong_gcd hm).mp (hw j hj))
      have hI := Invs_spec (b := bk m) (t := tw m) hm xs (by omega)
      have hr : invsR m xs = .sl xs.length 1 (fun j => u64 (minv m (xs.getD j 0))) := if_pos hf
      rw [hr, hf] at hI
      refine ev_rs [.tup 2 (two (.sl xs.length 1 (fun j => u64 (minv m (xs.getD j 0)))) (i64 0))] rfl ⟨.inl hI, trivial⟩ ?_
      refine ev_at (α := Unit) (fun _ => True) (fun _ => [(0, .p (u64 m)), (1, .p (u64s xs)), (7, .p (.sl xs.length 1 (fun j => u64 (minv m (xs.getD j 0))))), (8, .p (i64 0))]) (fun _ => []) ?_ ?_
      · refine ev_rs [] rfl trivial ?_
        refine ev_block (ev_while0 (α := Nat) (fun i => i ≤ xs.length) (fun i => [(0, .p (u64 m)), (1, .p (u64s xs)), (7, .p (.sl xs.length 1 (fun j => u64 (minv m (xs.getD j 0))))), (8, .p (i64 0)), (9, .p (i64 i))]) (fun i => xs.length - i) 0
          (Nat.zero_le _) ⟨le_0, le_0, le_0, le_0, le_0, trivial⟩ ?_)
        rintro i h1
        refine ev_seq (ev_rs [] rfl trivial (ev_cond rfl (fun h => ev_sk ?_) (fun h => ev_exit ?_)))
        · have hi : i < xs.length := Int.ofNat_lt.mp (of_decide_eq_true h)
          refine ev_seq (ev_block ?_)
          have hW := RefWrong_spec hm (xs.getD i 0)
          rw [hw i hi] at hW
          refine ev_rs [i64 0] rfl ⟨.inl hW, hi, ⟨by omega, by omega⟩, trivial⟩ ?_
          refine ev_rs [] rfl trivial (ev_cf rfl (ev_skip ?_))
          exact ev_region [] rfl trivial (round0 (i + 1) hi (by omega) ⟨le_0, le_0, le_0, le_0, le_e (congrArg (fun z => PV.val (.int .i64 z)) (wrapI _ (by omega) (by omega))), trivial⟩)
        · exact at0 () trivial ⟨le_0, le_0, le_0, le_0, trivial⟩
      rintro ⟨⟩ -
      refine ev_seq (ev_rs [] rfl (by repeat' (first | exact trivial | exact gd_t | exact gd_f | exact (fun _ => rfl) | intro _ | apply And.intro | assumption | exact rfl | exact gd_t (by assumption) | exact gd_f (by assumption))) (ev_cond rfl (fun h => absurd h (by simp)) (fun _ => ev_sk ?_)))
      refine ev_at (α := Unit) (fun _ => True) (fun _ => []) (fun _ => []) ?_ ?_
      · refine ev_rs [] rfl trivial ?_
        refine ev_block (ev_while0 (α := Nat) (fun i => i ≤ xs.length) (fun i => [(0, .p (u64 m)), (1, .p (u64s xs)), (7, .p (.sl xs.length 1 (fun j => u64 (minv m (xs.getD j 0))))), (11, .p (i64 i))]) (fun i => xs.length - i) 0
          (Nat.zero_le _) ⟨le_0, le_0, le_0, le_0, trivial⟩ ?_)
        rintro i h1
        refine ev_seq (ev_rs [] rfl trivial (ev_cond rfl (fun h => ev_sk ?_) (fun h => ev_exit ?_)))
        · have hi : i < xs.length := Int.ofNat_lt.mp (of_decide_eq_true h)
          obtain ⟨hv1, hv2⟩ := hinv i hi
          have hi0 : (0 : Int) ≤ (i : Int) := by omega
          have hin : (i : Int) < (xs.length : Int) := by omega
          refine ev_seq (ev_block ?_)
          refine ev_ds [u64 (xs.getD i 0 * minv m (xs.getD i 0) % m)] (by kernel_rfl) rfl rfl (by repeat' (first | exact trivial | exact gd_t | exact gd_f | exact .inl (RefMul_spec hm _ _ (Nat.lt_trans hv1 hm64)) | exact hi | exact hi0 | exact hin | exact (fun _ => rfl) | intro _ | apply And.intro | assumption | exact rfl | exact gd_t (by assumption) | exact gd_f (by assumption))) (ev_cond rfl (fun h => absurd h ?_) (fun _ => ev_skip ?_))
          · have h1 : ¬ (minv m (xs.getD i 0) : Int) ≥ m := by omega
            have h2 : ((xs.getD i 0 * minv m (xs.getD i 0) % m : Nat) : Int) = 1 := by rw [hv2]; rfl
            show ¬ (bif decide ((minv m (xs.getD i 0) : Int) ≥ m) then true else ((xs.getD i 0 * minv m (xs.getD i 0) % m : Nat) : Int) != 1) = true
            rw [decide_eq_false h1, h2]
            decide
          · exact ev_region [] rfl trivial (round0 (i + 1) hi (by omega) ⟨le_0, le_0, le_0, le_e (congrArg (fun z => PV.val (.int .i64 z)) (wrapI _ (by omega) (by omega))), trivial⟩)
        · exact at0 () trivial trivial
      rintro ⟨⟩ -
      refine ev_rs [bool true] rfl ⟨.inl awake_spec, trivial⟩ ?_
      exact ev_ret (ret1 (fz_p (PLe.refl _)))
    · -- one has none
      have hI := Invs_spec (b := bk m) (t := tw m) hm xs (by omega)
      have hr : invsR m xs = nilS := if_neg hf
      rw [hr] at hI
      refine ev_rs [.tup 2 (two nilS (i64 (firstW m xs)))] rfl ⟨.inl hI, trivial⟩ ?_
      refine ev_at (α := Unit) (fun _ => False) (fun _ => []) (fun _ => []) ?_ (fun _ h => h.elim)
      refine ev_rs [] rfl trivial ?_
      refine ev_block (ev_while0 (α := Nat) (fun i => i ≤ xs.length ∧ ∀ j, j < i → wrong (xs.getD j 0) m = 0) (fun i => [(0, .p (u64 m)), (1, .p (u64s xs)), (7, .p nilS), (8, .p (i64 (firstW m xs))), (9, .p (i64 i))]) (fun i => xs.length - i) 0
        ⟨Nat.zero_le _, fun j hj => by omega⟩ ⟨le_0, le_0, le_0, le_0, le_0, trivial⟩ ?_)
      rintro i ⟨h1, h2⟩
      refine ev_seq (ev_rs [] rfl trivial (ev_cond rfl (fun h => ev_sk ?_) (fun h => ev_exit ?_)))
      · have hi : i < xs.length := Int.ofNat_lt.mp (of_decide_eq_true h)
        refine ev_seq (ev_block ?_)
        refine ev_rs [i64 (wrong (xs.getD i 0) m)] rfl ⟨.inl (RefWrong_spec hm _), hi, ⟨by omega, by omega⟩, trivial⟩ ?_
        refine ev_rs [] rfl trivial (ev_cond rfl (fun h => ?_) (fun h => ev_skip ?_))
        · have hw : wrong (xs.getD i 0) m ≠ 0 := fun e => (bne_iff_ne.mp h) (Int.ofNat_inj.mpr e)
          have hfw := firstW_at hi h2 hw
          refine ev_rs [bool true] rfl (by repeat' (first | exact trivial | exact gd_t | exact gd_f | exact .inl awake_spec | exact (fun _ => rfl) | intro _ | apply And.intro | assumption | exact rfl | exact gd_t (by assumption) | exact gd_f (by assumption))) ?_
          refine ev_ret (ret1 (fz_p (PLe.of_eq (congrArg Vinc.bool ?_))))
          simp [hfw]
        · have hw : wrong (xs.getD i 0) m = 0 := Int.ofNat_inj.mp (bne_eq_false_iff_eq.mp h)
          refine ev_region [] rfl trivial (round0 (i + 1) ⟨hi, fun j hj => ?_⟩ (by omega) ⟨le_0, le_0, le_0, le_0, le_e (congrArg (fun z => PV.val (.int .i64 z)) (wrapI _ (by omega) (by omega))), trivial⟩)
          rcases Nat.lt_or_ge j i with hj' | hj'
          · exact h2 j hj'
          · rw [show j = i by omega]; exact hw
      · have hi : i = xs.length := by
          have := of_decide_eq_false h
          omega
        subst hi
        exact absurd (firstW_zero h2) hf
  · refine callSpec_of Try.pr Try.func9 rfl rfl rfl fun w0 ok0 hok hG => ?_
    refine ev_rs [] rfl trivial ?_
    refine ev_rs [.tup 2 (two nilP (bool true))] rfl ⟨.inl (field_bad hm), trivial⟩ ?_
    refine ev_seq (ev_rs [] rfl trivial (ev_cf rfl (ev_sk ?_)))
    refine ev_seq (ev_rs [] rfl (by repeat' (first | exact trivial | exact gd_t | exact gd_f | exact (fun _ => rfl) | intro _ | apply And.intro | assumption | exact rfl | exact gd_t (by assumption) | exact gd_f (by assumption))) (ev_ct rfl ?_))
    refine ev_rs [bool true] rfl ⟨.inl awake_spec, trivial⟩ ?_
    exact ev_ret (ret1 (fz_p (PLe.refl _)))

theorem WordNil_spec (x y : Nat) (hy : y < 18446744073709551616) : CallSpec Try.pr.P Try.pr.G 10 [u64 x, u64 y] (bool true) := by
  refine callSpec_of Try.pr Try.func10 rfl rfl rfl fun w0 ok0 hok hG => ?_
  have hp := Pow_nil x (y % 100) (by omega)
  refine ev_rs [] rfl trivial ?_
  refine ev_rs [] rfl trivial ?_
  refine ev_rs [.tup 2 (two (u64 0) (i64 2))] rfl ⟨.inl (Inv_nil x), trivial⟩ ?_
  refine ev_rs [.tup 2 (two nilS (i64 2))] rfl (by repeat' (first | exact trivial | exact gd_t | exact gd_f | exact .inl (Invs_nil _) | exact leb rfl | exact (fun _ => rfl) | intro _ | apply And.intro | assumption | exact rfl | exact gd_t (by assumption) | exact gd_f (by assumption))) ?_
  refine ev_rs [.tup 2 (two (u64 0) (i64 2))] rfl ⟨.inl (In_nil x), trivial⟩ ?_
  refine ev_rs [.tup 2 (two (u64 0) (i64 2))] rfl ⟨.inl (Times_nil x y), trivial⟩ ?_
  refine ev_rs [.tup 2 (two (u64 0) (i64 2))] rfl ⟨.inl (Out_nil x), trivial⟩ ?_
  refine ev_rs [u64 0, u64 0, u64 0, u64 0, u64 0, u64 0, bool true] rfl (by repeat' (first | exact trivial | exact gd_t | exact gd_f | exact .inl awake_spec | exact .inl M_nil | exact .inl (Of_nil _) | exact .inl (Add_nil _ _) | exact .inl (Sub_nil _ _) | exact .inl (Mul_nil _ _) | exact .inl hp | exact (show ((100 : Int) ≠ 0) by decide) | exact (fun _ => rfl) | intro _ | apply And.intro | assumption | exact rfl | exact gd_t (by assumption) | exact gd_f (by assumption))) ?_
  exact ev_ret (ret1 (fz_p (PLe.of_eq rfl)))

end Go.Proofs
