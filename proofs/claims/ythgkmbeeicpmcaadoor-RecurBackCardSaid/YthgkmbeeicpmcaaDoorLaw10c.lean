/- A row has a rule that is no longer than it: the law, walked. -/
import Derived.Test.YthgkmbeeicpmcaaDoorLaw10b
import Derived.Test.YthgkmbeeicpmcaaDoorVincBm
set_option linter.unusedVariables false
namespace Go.Proofs
open Go Vinc Vinc.Num

theorem asked_iv {p : Nat} (h : Asked p) : ∀ x, x % p ≠ 0 → x * minv p x % p = 1 % p := fun x hx => by
  have hp := asked_prime h
  have hm := asked_may h
  have hg : Nat.gcd x p = 1 := by
    rw [Nat.gcd_comm]
    exact hp.coprime fun hd => hx (Nat.mod_eq_zero_of_dvd hd)
  rw [(minv_spec hm.1 hg).2, Nat.mod_eq_of_lt hm.1]

def noneB (p : Nat) (row : List Nat) (i : Nat) : Bool := decide (∀ j, j < i → row.getD j 0 % p = 0)

theorem noneB_step (p : Nat) (row : List Nat) (i : Nat) : (bif noneB p row i then (((row.getD i 0 : Nat) : Int).tmod (p : Int) == 0) else false) = noneB p row (i + 1) := by
  have e : ((((row.getD i 0 : Nat) : Int).tmod (p : Int)) == 0) = decide (row.getD i 0 % p = 0) := by
    by_cases h : row.getD i 0 % p = 0
    · rw [decide_eq_true h]
      exact beq_iff_eq.mpr (by rw [tmodN, h]; rfl)
    · rw [decide_eq_false h]
      exact beq_eq_false_iff_ne.mpr fun e => h (Int.ofNat_inj.mp e)
  rw [e]
  unfold noneB
  by_cases h1 : ∀ j, j < i → row.getD j 0 % p = 0
  · rw [decide_eq_true h1]
    by_cases h2 : row.getD i 0 % p = 0
    · rw [decide_eq_true h2, decide_eq_true]
      · rfl
      · intro j hj
        rcases Nat.lt_or_ge j i with h3 | h3
        · exact h1 j h3
        · rw [show j = i by omega]; exact h2
    · rw [decide_eq_false h2, decide_eq_false fun h3 => h2 (h3 i (Nat.lt_succ_self i))]
      rfl
  · rw [decide_eq_false h1, decide_eq_false (p := ∀ j, j < i + 1 → row.getD j 0 % p = 0) fun h3 => h1 fun j hj => h3 j (by omega)]
    rfl

theorem RecurAny_spec (p : Nat) (row : List Nat) (hp : p < 18446744073709551616) :
    CallSpec Tryd.pr.P Tryd.pr.G 8 [u64 p, u64s row] (Vinc.bool true) := by
  refine callSpec_of Tryd.pr Tryd.func8 rfl rfl rfl fun w0 ok0 hok hG => ?_
  refine ev_rs [] rfl trivial ?_
  by_cases hA : Asked p
  · have hm := asked_may hA
    have hp0 := hm.1
    have hb := isB_asked hA
    refine ev_seq (ev_rs [Vinc.bool true] rfl (by repeat' (first | exact trivial | exact gd_t | exact gd_f | exact .inl (LawPrime_t hA) | exact (fun _ => rfl) | intro _ | apply And.intro | assumption | exact rfl | exact gd_t (by assumption) | exact gd_f (by assumption) | exact gd_a (by assumption) (by assumption))) (ev_cond rfl (fun h => ?_) (fun h => ev_sk ?_)))
    · exact ev_rs [Vinc.bool true] rfl ⟨.inl awake_spec, trivial⟩ (ev_ret (ret1 (fz_p (PLe.refl _))))
    have hl : row.length ≤ 60 := by
      cases hd : decide ((row.length : Int) > 60) with
      | true => rw [hd] at h; cases h
      | false => have := of_decide_eq_false hd; omega
    have hlen := find_len (minv p) p row
    have hh := find_holds (by omega : 1 < p) (minv p) (asked_iv hA) row
    have hn := find_none (by omega : 1 < p) (minv p) (asked_iv hA) row
    have hF := Find_ok hm hb row (by omega)
    obtain ⟨r, hr⟩ : ∃ r, (findN (minv p) p row row.length).now = r := ⟨_, rfl⟩
    rw [hr] at hlen hh hn hF
    have hH := Holds_ok hm hb r row (by omega) (by omega)
    rw [hh] at hH
    refine ev_rs [.tup 2 (two (u64s r) (i64 0))] rfl ⟨.inl hF, trivial⟩ ?_
    refine ev_rs [.tup 2 (two (Vinc.bool true) (i64 0))] rfl ⟨.inl hH, trivial⟩ ?_
    have hd : decide ((r.length : Int) > (row.length : Int)) = false := decide_eq_false (by omega)
    refine ev_seq (ev_rs [] rfl (by repeat' (first | exact trivial | exact gd_t | exact gd_f | exact (fun _ => rfl) | intro _ | apply And.intro | assumption | exact rfl | exact gd_t (by assumption) | exact gd_f (by assumption) | exact gd_a (by assumption) (by assumption))) (ev_cf (congrArg (fun b => AV.p (PV.val (.bool b))) hd) (ev_sk ?_)))
    refine ev_rs [] rfl trivial ?_
    refine ev_at (α := Unit) (fun _ => True) (fun _ => [(5, .p (u64s r)), (9, .p (Vinc.bool (noneB p row row.length)))]) (fun _ => []) ?_ ?_
    · refine ev_rs [] rfl trivial ?_
      refine ev_block (ev_while0 (α := Nat) (fun i => i ≤ row.length) (fun i => [(0, .p (u64 p)), (1, .p (u64s row)), (5, .p (u64s r)), (9, .p (Vinc.bool (noneB p row i))), (10, .p (i64 i))]) (fun i => row.length - i) 0
        (Nat.zero_le _) ⟨le_0, le_0, le_0, le_e (congrArg Vinc.bool (decide_eq_true (fun j hj => by omega)).symm), le_0, trivial⟩ ?_)
      rintro i h1
      refine ev_seq (ev_rs [] rfl trivial (ev_cond rfl (fun h => ev_sk ?_) (fun h => ev_exit ?_)))
      · have hi : i < row.length := Int.ofNat_lt.mp (of_decide_eq_true h)
        refine ev_seq (ev_block ?_)
        refine ev_region [] rfl (by repeat' (first | exact trivial | exact gd_t | exact gd_f | exact hi | exact Int.natCast_nonneg _ | exact Int.ofNat_lt.mpr hi | exact (fun e => by simp at e; omega) | exact (fun _ => rfl) | intro _ | apply And.intro | assumption | exact rfl | exact gd_t (by assumption) | exact gd_f (by assumption) | exact gd_a (by assumption) (by assumption))) ?_
        exact ev_region [] rfl trivial (round0 (i + 1) hi (by omega) ⟨le_0, le_0, le_0, le_e (congrArg Vinc.bool (noneB_step p row i)), le_e (congrArg (fun z => PV.val (.int .i64 z)) (wrapI _ (by omega) (by omega))), trivial⟩)
      · have hi : i = row.length := by
          have := of_decide_eq_false h
          omega
        subst hi
        exact at0 () trivial ⟨le_0, le_0, trivial⟩
    rintro ⟨⟩ -
    have hfin : (noneB p row row.length == (((r.length : Nat) : Int) == 0)) = true := by
      have e : (((r.length : Nat) : Int) == 0) = decide (r = []) := by
        by_cases h : r = []
        · rw [decide_eq_true h, h]; rfl
        · rw [decide_eq_false h]
          exact beq_eq_false_iff_ne.mpr fun e => h (List.eq_nil_of_length_eq_zero (Int.ofNat_inj.mp e))
      rw [e]
      unfold noneB
      rw [decide_eq_decide.mpr hn.symm]
      exact beq_self_eq_true _
    refine ev_rs [Vinc.bool true] rfl (by repeat' (first | exact trivial | exact gd_t | exact gd_f | exact .inl awake_spec | exact (fun _ => rfl) | intro _ | apply And.intro | assumption | exact rfl | exact gd_t (by assumption) | exact gd_f (by assumption) | exact gd_a (by assumption) (by assumption))) (ev_ret (ret1 (fz_p (PLe.of_eq (congrArg Vinc.bool ?_)))))
    show (bif (noneB p row row.length == (((r.length : Nat) : Int) == 0)) then true else false) = true
    rw [hfin]
    rfl
  · refine ev_seq (ev_rs [Vinc.bool false] rfl (by repeat' (first | exact trivial | exact gd_t | exact gd_f | exact .inl (LawPrime_f hA) | exact (fun _ => rfl) | intro _ | apply And.intro | assumption | exact rfl | exact gd_t (by assumption) | exact gd_f (by assumption) | exact gd_a (by assumption) (by assumption))) (ev_cond rfl (fun h => ?_) (fun h => ?_)))
    · exact ev_rs [Vinc.bool true] rfl ⟨.inl awake_spec, trivial⟩ (ev_ret (ret1 (fz_p (PLe.refl _))))
    · exfalso
      have h : (bif decide ((row.length : Int) > 60) then true else !false) = false := h
      cases hd : decide ((row.length : Int) > 60) <;> rw [hd] at h <;> cases h

end Go.Proofs
