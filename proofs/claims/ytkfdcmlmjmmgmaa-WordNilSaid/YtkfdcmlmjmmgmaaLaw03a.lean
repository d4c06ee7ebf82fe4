/- Chapter 3: what the statements have in common. -/
import Derived.Test.YtkfdcmlmjmmgmaaInvs
set_option linter.unusedVariables false
namespace Go.Proofs
open Go Vinc

theorem bk_ok {m : Nat} (ho : m % 2 = 1) : (m * bk m + 1) % 18446744073709551616 = 0 := by
  have hg : Nat.gcd m 18446744073709551616 = 1 := by rw [Nat.gcd_comm]; exact odd_gcd ho
  obtain ⟨h1, h2⟩ := minv_spec (m := 18446744073709551616) (x := m) (by decide) hg
  have hb : bk m = 18446744073709551616 - minv 18446744073709551616 m := if_pos ho
  rw [hb]
  apply back_ok h1
  have := Nat.div_add_mod (m * minv 18446744073709551616 m) 18446744073709551616
  rw [h2] at this
  exact ⟨(m * minv 18446744073709551616 m / 18446744073709551616 : Nat), by
    generalize m * minv 18446744073709551616 m / 18446744073709551616 = q at this ⊢
    have h3 : ((m * minv 18446744073709551616 m : Nat) : Int) = ((18446744073709551616 * q + 1 : Nat) : Int) := congrArg _ this.symm
    rw [Int.natCast_mul, Int.natCast_add, Int.natCast_mul] at h3
    rw [h3]
    generalize ((18446744073709551616 : Nat) : Int) * (q : Int) = z
    show z + 1 - 1 = z
    omega⟩

theorem field_good {m : Nat} (hm : MayM m) : CallSpec Try.pr.P Try.pr.G 11 [u64 m] (.tup 2 (two (newF m) (bool true))) := by
  refine callSpec_of Try.pr Try.func11 rfl rfl rfl fun w0 ok0 hok hG => ?_
  refine ev_rs [] rfl trivial ?_
  refine ev_rs [.tup 2 (two (newF m) (i64 0))] rfl ⟨.inl (New_spec hm), trivial⟩ ?_
  refine ev_seq (ev_rs [bool (mayB m)] rfl ⟨.inl (RefMay_spec m), trivial⟩ (ev_cond rfl (fun h => ?_) (fun h => ev_sk ?_)))
  · rw [(mayB_iff m).mpr hm] at h; cases h
  refine ev_rs [u64 m] rfl (by repeat' (first | exact trivial | exact gd_t | exact gd_f | exact .inl M_spec | exact (fun _ => rfl) | intro _ | apply And.intro | assumption | exact rfl | exact gd_t (by assumption) | exact gd_f (by assumption))) ?_
  refine ev_ret (ret2 (fz_p (PLe.refl _)) (fz_p (PLe.of_eq (congrArg Vinc.bool ?_))))
  simp

theorem field_bad {m : Nat} (hm : ¬ MayM m) : CallSpec Try.pr.P Try.pr.G 11 [u64 m] (.tup 2 (two nilP (bool true))) := by
  have hb : mayB m = false := by
    cases h : mayB m
    · rfl
    · exact absurd ((mayB_iff m).mp h) hm
  refine callSpec_of Try.pr Try.func11 rfl rfl rfl fun w0 ok0 hok hG => ?_
  refine ev_rs [] rfl trivial ?_
  refine ev_rs [.tup 2 (two nilP (i64 1))] rfl ⟨.inl (New_bad hm), trivial⟩ ?_
  refine ev_seq (ev_rs [bool (mayB m)] rfl ⟨.inl (RefMay_spec m), trivial⟩ (ev_cond rfl (fun h => ?_) (fun h => ?_)))
  · refine ev_rs [] rfl (by repeat' (first | exact trivial | exact gd_t | exact gd_f | exact (fun _ => rfl) | intro _ | apply And.intro | assumption | exact rfl | exact gd_t (by assumption) | exact gd_f (by assumption))) (ev_ret (ret2 (fz_p (PLe.refl _)) (fz_p (PLe.of_eq (congrArg Vinc.bool ?_)))))
    simp
  · rw [hb] at h; cases h

theorem awake_spec : CallSpec Try.pr.P Try.pr.G 12 [] (bool true) := by
  have h7 : MayM 7 := ⟨by decide, by decide⟩
  have h8 : MayM 8 := ⟨by decide, by decide⟩
  have i3 := Inv_spec (b := bk 7) (t := tw 7) h7 3
  have i7 := Inv_spec (b := bk 7) (t := tw 7) h7 7
  have i6 := Inv_spec (b := bk 8) (t := tw 8) h8 6
  rw [minv_eq (y := 5) (by decide) (by decide), show wrong 3 7 = 0 by decide] at i3
  rw [show wrong 7 7 = 10 by decide] at i7
  rw [show wrong 6 8 = 11 by decide] at i6
  have n1 := In_even (b := bk 8) (t := tw 8) h8 (by decide) 1
  have m5 := Mul_spec (b := bk 7) (t := tw 7) h7 5 6
  refine callSpec_of Try.pr Try.func12 rfl rfl rfl fun w0 ok0 hok hG => ?_
  refine ev_rs [] rfl trivial ?_
  refine ev_rs [.tup 2 (two (newF 7) (i64 0))] rfl ⟨.inl (New_spec h7), trivial⟩ ?_
  refine ev_rs [.tup 2 (two (newF 8) (i64 0))] rfl ⟨.inl (New_spec h8), trivial⟩ ?_
  refine ev_seq (ev_rs [] rfl (by repeat' (first | exact trivial | exact gd_t | exact gd_f | exact (fun _ => rfl) | intro _ | apply And.intro | assumption | exact rfl | exact gd_t (by assumption) | exact gd_f (by assumption))) (ev_cf rfl (ev_sk ?_)))
  refine ev_rs [.tup 2 (two (u64 5) (i64 0))] rfl ⟨.inl i3, trivial⟩ ?_
  refine ev_rs [.tup 2 (two (u64 (minv 7 7)) (i64 10))] rfl ⟨.inl i7, trivial⟩ ?_
  refine ev_rs [.tup 2 (two (u64 (minv 8 6)) (i64 11))] rfl ⟨.inl i6, trivial⟩ ?_
  refine ev_rs [.tup 2 (two (u64 0) (i64 1))] rfl ⟨.inl n1, trivial⟩ ?_
  refine ev_rs [u64 (5 * 6 % 7)] rfl (by repeat' (first | exact trivial | exact gd_t | exact gd_f | exact .inl m5 | exact (fun _ => rfl) | intro _ | apply And.intro | assumption | exact rfl | exact gd_t (by assumption) | exact gd_f (by assumption))) ?_
  exact ev_ret (ret1 (fz_p (PLe.of_eq rfl)))

end Go.Proofs
