/- The rule by which a row was made is found again: the law, walked. -/
import Derived.Test.YthgkmbeeicpmcaaDoorLaw10d
import Derived.Test.YthgkmbeeicpmcaaDoorVincBk
set_option linter.unusedVariables false
namespace Go.Proofs
open Go Vinc Vinc.Num

theorem bool4 : ∀ a b c d : Bool, (bif (bif (bif a then true else b) then true else c) then true else d) = false → a = false ∧ b = false ∧ c = false ∧ d = false := by decide

theorem RecurBack_spec (p : Nat) (r first : List Nat) (hp : p < 18446744073709551616) :
    CallSpec Tryd.pr.P Tryd.pr.G 7 [u64 p, u64s r, u64s first] (Vinc.bool true) := by
  refine callSpec_of Tryd.pr Tryd.func7 rfl rfl rfl fun w0 ok0 hok hG => ?_
  refine ev_rs [] rfl trivial ?_
  by_cases hA : Asked p
  · have hm := asked_may hA
    have hp0 := hm.1
    have hb := isB_asked hA
    refine ev_seq (ev_rs [Vinc.bool true] rfl (by repeat' (first | exact trivial | exact gd_t | exact gd_f | exact .inl (LawPrime_t hA) | exact (fun _ => rfl) | intro _ | apply And.intro | assumption | exact rfl | exact gd_t (by assumption) | exact gd_f (by assumption) | exact gd_a (by assumption) (by assumption))) (ev_cond rfl (fun h => ?_) (fun h => ev_sk ?_)))
    · exact ev_rs [Vinc.bool true] rfl ⟨.inl awake_spec, trivial⟩ (ev_ret (ret1 (fz_p (PLe.refl _))))
    obtain ⟨g1, g2, g3, _⟩ := bool4 _ _ _ _ h
    have hr : r.length ≤ 10 := by have := of_decide_eq_false g1; omega
    have hf : first.length ≤ 10 := by have := of_decide_eq_false g2; omega
    have hrf : r.length ≤ first.length := by have := of_decide_eq_false g3; omega
    have e1 : IntKind.wrap .i64 (IntKind.wrap .i64 (3 * (r.length : Int)) + 5) = ((3 * r.length + 5 : Nat) : Int) := by
      rw [wrapI (3 * (r.length : Int)) (by omega) (by omega), wrapI _ (by omega) (by omega)]; omega
    have e2 : IntKind.wrap .i64 (2 * (r.length : Int)) = ((2 * r.length : Nat) : Int) := by
      rw [wrapI _ (by omega) (by omega)]; omega
    have htl : (first.take r.length).length = r.length := by rw [List.length_take]; omega
    have hM := RefMore_spec hm r (first.take r.length) (3 * r.length + 5) (by omega) (by omega) (by omega)
    obtain ⟨k1, k2, k3⟩ := back_all (by omega : 1 < p) (minv p) (asked_iv hA) r ((first.take r.length).map (· % p)) (by rw [List.length_map, htl])
    obtain ⟨row, hrow⟩ : ∃ row, refMore p r ((first.take r.length).map (· % p)) (3 * r.length + 5) = row := ⟨_, rfl⟩
    have hrl : row.length = 4 * r.length + 5 := by rw [← hrow, length_refMore, List.length_map, htl]; omega
    rw [hrow] at hM k1 k2 k3
    have hF1 := Find_ok hm hb (row.take (2 * r.length)) (by rw [List.length_take]; omega)
    have hF2 := Find_ok hm hb row (by omega)
    rw [k3] at hF2
    obtain ⟨s, hs⟩ : ∃ s, (findN (minv p) p (row.take (2 * r.length)) (row.take (2 * r.length)).length).now = s := ⟨_, rfl⟩
    rw [hs] at hF1 hF2 k1 k2
    have hH := Holds_ok hm hb s row (by omega) (by omega)
    rw [k2] at hH
    have hS := Same_spec s s (by omega) (by omega)
    rw [decide_eq_true rfl] at hS
    refine ev_rs [u64s row] rfl ?_ ?_
    · rw [e1]
      exact ⟨.inl (callSpec_args (as' := [u64s r, u64s (first.take r.length), i64 ((3 * r.length + 5 : Nat) : Int), u64 p]) ⟨PLe.refl _, PLe.take hrf, PLe.refl _, PLe.refl _, trivial⟩ hM), ⟨by omega, by omega⟩, trivial⟩
    refine ev_rs [.tup 2 (two (u64s s) (i64 0))] rfl ?_ ?_
    · rw [e2]
      exact ⟨.inl (callSpec_args (as' := [u64 p, u64s (row.take (2 * r.length))]) ⟨PLe.refl _, PLe.take (by omega), trivial⟩ hF1), ⟨by omega, by omega⟩, trivial⟩
    have hd : decide ((s.length : Int) > (r.length : Int)) = false := decide_eq_false (by omega)
    refine ev_seq (ev_rs [] rfl (by repeat' (first | exact trivial | exact gd_t | exact gd_f | exact (fun _ => rfl) | intro _ | apply And.intro | assumption | exact rfl | exact gd_t (by assumption) | exact gd_f (by assumption) | exact gd_a (by assumption) (by assumption))) (ev_cf (congrArg (fun b => AV.p (PV.val (.bool b))) hd) (ev_sk ?_)))
    refine ev_rs [.tup 2 (two (u64s s) (i64 0))] rfl ⟨.inl hF2, trivial⟩ ?_
    refine ev_seq (ev_rs [] rfl (by repeat' (first | exact trivial | exact gd_t | exact gd_f | exact (fun _ => rfl) | intro _ | apply And.intro | assumption | exact rfl | exact gd_t (by assumption) | exact gd_f (by assumption) | exact gd_a (by assumption) (by assumption))) (ev_cf (congrArg (fun b => AV.p (PV.val (.bool b))) hd) (ev_sk ?_)))
    refine ev_rs [.tup 2 (two (Vinc.bool true) (i64 0))] rfl ⟨.inl hH, trivial⟩ ?_
    exact ev_rs [Vinc.bool true, Vinc.bool true] rfl (by repeat' (first | exact trivial | exact gd_t | exact gd_f | exact .inl hS | exact .inl awake_spec | exact (fun _ => rfl) | intro _ | apply And.intro | assumption | exact rfl | exact gd_t (by assumption) | exact gd_f (by assumption) | exact gd_a (by assumption) (by assumption))) (ev_ret (ret1 (fz_p (PLe.refl _))))
  · refine ev_seq (ev_rs [Vinc.bool false] rfl (by repeat' (first | exact trivial | exact gd_t | exact gd_f | exact .inl (LawPrime_f hA) | exact (fun _ => rfl) | intro _ | apply And.intro | assumption | exact rfl | exact gd_t (by assumption) | exact gd_f (by assumption) | exact gd_a (by assumption) (by assumption))) (ev_cond rfl (fun h => ?_) (fun h => ?_)))
    · exact ev_rs [Vinc.bool true] rfl ⟨.inl awake_spec, trivial⟩ (ev_ret (ret1 (fz_p (PLe.refl _))))
    · exfalso
      obtain ⟨_, _, _, g⟩ := bool4 _ _ _ _ h
      cases g

end Go.Proofs
