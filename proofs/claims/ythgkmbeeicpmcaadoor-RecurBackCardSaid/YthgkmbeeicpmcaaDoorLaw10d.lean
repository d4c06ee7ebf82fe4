/- The number at a place: the law, walked. -/
import Derived.Test.YthgkmbeeicpmcaaDoorLaw10c
import Derived.Test.YthgkmbeeicpmcaaDoorVincFr
set_option linter.unusedVariables false
namespace Go.Proofs
open Go Vinc Vinc.Num

theorem minv_one {p : Nat} (hp : 1 < p) : minv p 1 = 1 := minv_eq hp (by rw [Nat.one_mul, Nat.mod_eq_of_lt hp])

theorem bool2 : ∀ a b c : Bool, (bif (bif a then true else b) then true else c) = false → a = false ∧ b = false ∧ c = false := by decide

theorem RecurFar_spec (p : Nat) (r row : List Nat) (n : Nat) (hp : p < 18446744073709551616) (hn : n < 18446744073709551616) :
    CallSpec Tryd.pr.P Tryd.pr.G 5 [u64 p, .agg 2 (two (u64s r) (u64s row)), u64 n] (Vinc.bool true) := by
  refine callSpec_of Tryd.pr Tryd.func5 rfl rfl rfl fun w0 ok0 hok hG => ?_
  refine ev_rs [] rfl trivial ?_
  refine ev_rs [] rfl (by repeat' (first | exact trivial | exact gd_t | exact gd_f | exact leb rfl | exact Int.le_refl _ | exact (by decide : (0 : Int) < ((2 : Nat) : Int)) | exact (by decide : (0 : Int) ≤ 1) | exact (by decide : (1 : Int) < ((2 : Nat) : Int)) | exact (fun _ => rfl) | intro _ | apply And.intro | assumption | exact rfl | exact gd_t (by assumption) | exact gd_f (by assumption) | exact gd_a (by assumption) (by assumption))) ?_
  refine ev_rs [] rfl (by repeat' (first | exact trivial | exact gd_t | exact gd_f | exact leb rfl | exact Int.le_refl _ | exact (by decide : (0 : Int) < ((2 : Nat) : Int)) | exact (by decide : (0 : Int) ≤ 1) | exact (by decide : (1 : Int) < ((2 : Nat) : Int)) | exact (fun _ => rfl) | intro _ | apply And.intro | assumption | exact rfl | exact gd_t (by assumption) | exact gd_f (by assumption) | exact gd_a (by assumption) (by assumption))) ?_
  refine ev_seq (ev_rs [] rfl (by repeat' (first | exact trivial | exact gd_t | exact gd_f | exact (fun _ => rfl) | intro _ | apply And.intro | assumption | exact rfl | exact gd_t (by assumption) | exact gd_f (by assumption) | exact gd_a (by assumption) (by assumption))) (ev_cond rfl (fun h => ?_) (fun h => ev_sk ?_)))
  · exact ev_rs [Vinc.bool true] rfl ⟨.inl awake_spec, trivial⟩ (ev_ret (ret1 (fz_p (PLe.refl _))))
  obtain ⟨g1, g2, g3⟩ := bool2 _ _ _ h
  have hr : r.length ≤ 10 := by have := of_decide_eq_false g1; omega
  have hrow : row.length ≤ 20 := by have := of_decide_eq_false g2; omega
  have hn3 : n ≤ 300 := by have := of_decide_eq_false g3; omega
  refine ev_wk (σ' := mk [(0, .p (u64 p)), (2, .p (u64 n)), (7, .p (u64s r)), (8, .p (u64s row))] []) (wk (fun i => i) ⟨le_0, le_0, le_0, le_0, trivial⟩ trivial rfl) ?_
  by_cases hA : Asked p
  · have hm := asked_may hA
    have hp0 := hm.1
    have hp2 := hm.2
    have hb := isB_asked hA
    rcases Nat.lt_or_ge row.length r.length with h1 | h1
    · refine ev_rs [.tup 2 (two (u64 0) (i64 1))] rfl ⟨.inl (Far_arg hm hb r row _ (by omega) h1), trivial⟩ ?_
      refine ev_seq (ev_rs [Vinc.bool true] rfl ⟨.inl (LawPrime_t hA), trivial⟩ (ev_cf rfl (ev_sk ?_)))
      refine ev_seq (ev_rs [] rfl trivial (ev_ct (congrArg (fun b => AV.p (PV.val (.bool b))) (decide_eq_true (Int.ofNat_lt.mpr h1))) ?_))
      exact ev_rs [Vinc.bool true] rfl (by repeat' (first | exact trivial | exact gd_t | exact gd_f | exact .inl awake_spec | exact (fun _ => rfl) | intro _ | apply And.intro | assumption | exact rfl | exact gd_t (by assumption) | exact gd_f (by assumption) | exact gd_a (by assumption) (by assumption))) (ev_ret (ret1 (fz_p (PLe.refl _))))
    · obtain ⟨f1, f2, f3⟩ := far_all (by omega : 1 < p) (minv p) (minv_one (by omega)) r row n hn (by omega) h1
      have hF := Far_ok hm hb r row n hn (by omega) h1 (by omega) f1 (by omega)
      have hM := RefMore_spec hm r (row.take r.length) 301 (by rw [List.length_take]; omega) (by rw [List.length_take]; omega) (by decide)
      obtain ⟨L, hL⟩ : ∃ L, refMore p r ((row.take r.length).map (· % p)) 301 = L := ⟨_, rfl⟩
      have hLl : L.length = r.length + 301 := by rw [← hL, length_refMore, List.length_map, List.length_take]; omega
      have hsq := refMore_sq p r ((row.take r.length).map (· % p)) 301 n (by omega)
      rw [hL] at hsq hM
      rw [f3, ← hsq] at hF
      refine ev_rs [.tup 2 (two (u64 (L.getD n 0)) (i64 0))] rfl ⟨.inl hF, trivial⟩ ?_
      refine ev_seq (ev_rs [Vinc.bool true] rfl ⟨.inl (LawPrime_t hA), trivial⟩ (ev_cf rfl (ev_sk ?_)))
      refine ev_seq (ev_rs [] rfl trivial (ev_cf (congrArg (fun b => AV.p (PV.val (.bool b))) (decide_eq_false (fun h => by have := Int.ofNat_lt.mp h; omega))) (ev_sk ?_)))
      refine ev_rs [u64s L] rfl ⟨.inl (callSpec_args (as' := [u64s r, u64s (row.take r.length), i64 (301 : Nat), u64 p]) ⟨PLe.refl _, PLe.take h1, PLe.refl _, PLe.refl _, trivial⟩ hM), ⟨by omega, by omega⟩, trivial⟩ ?_
      have hnl : n < L.length := by omega
      refine ev_rs [Vinc.bool true] rfl (by repeat' (first | exact trivial | exact gd_t | exact gd_f | exact .inl awake_spec | exact hnl | exact Int.natCast_nonneg _ | exact Int.ofNat_lt.mpr hnl | exact (fun _ => rfl) | intro _ | apply And.intro | assumption | exact rfl | exact gd_t (by assumption) | exact gd_f (by assumption) | exact gd_a (by assumption) (by assumption))) (ev_ret (ret1 (fz_p (PLe.of_eq (congrArg Vinc.bool ?_)))))
      have key : ∀ z : Int, (bif (bif ((0 : Int) == 0) then (z == z) else false) then true else false) = true := fun z => by rw [beq_self_eq_true z]; rfl
      exact key _
  by_cases hB : p < 9223372036854775808 ∧ isB p = true
  · have hbig := told_big hA hB.2
    have hm : MayM p := ⟨by omega, hB.1⟩
    obtain ⟨x, e, hF⟩ : ∃ (x : Nat) (e : Int), CallSpec Tryd.pr.P Tryd.pr.G 15 [u64 p, u64s r, u64s row, u64 n] (.tup 2 (two (u64 x) (i64 e))) := by
      rcases Nat.lt_or_ge row.length r.length with h1 | h1
      · exact ⟨_, _, Far_arg hm hB.2 r row _ (by omega) h1⟩
      · obtain ⟨f1, f2, f3⟩ := far_all (by omega : 1 < p) (minv p) (minv_one (by omega)) r row n hn (by omega) h1
        exact ⟨_, _, Far_ok hm hB.2 r row n hn (by omega) h1 (by omega) f1 (by omega)⟩
    refine ev_rs [.tup 2 (two (u64 x) (i64 e))] rfl ⟨.inl hF, trivial⟩ ?_
    refine ev_seq (ev_rs [Vinc.bool false] rfl ⟨.inl (LawPrime_f hA), trivial⟩ (ev_ct rfl ?_))
    refine ev_rs [Vinc.bool true] rfl (by repeat' (first | exact trivial | exact gd_t | exact gd_f | exact .inl awake_spec | exact (fun _ => rfl) | intro _ | apply And.intro | assumption | exact rfl | exact gd_t (by assumption) | exact gd_f (by assumption) | exact gd_a (by assumption) (by assumption))) (ev_ret (ret1 (fz_p (PLe.of_eq (congrArg Vinc.bool ?_)))))
    have hd1 : decide ((p : Int) > 100000) = true := decide_eq_true (by omega)
    have hd2 : decide ((p : Int) < 9223372036854775808) = true := decide_eq_true (by omega)
    show (bif (bif (bif decide ((p : Int) > 100000) then decide ((p : Int) < 9223372036854775808) else false) then true else _) then true else false) = true
    rw [hd1, hd2]
    rfl
  · refine ev_rs [.tup 2 (two (u64 0) (i64 14))] rfl ⟨.inl (Far_no hp hB _ _ _), trivial⟩ ?_
    refine ev_seq (ev_rs [Vinc.bool false] rfl ⟨.inl (LawPrime_f hA), trivial⟩ (ev_ct rfl ?_))
    refine ev_rs [Vinc.bool true] rfl (by repeat' (first | exact trivial | exact gd_t | exact gd_f | exact .inl awake_spec | exact (fun _ => rfl) | intro _ | apply And.intro | assumption | exact rfl | exact gd_t (by assumption) | exact gd_f (by assumption) | exact gd_a (by assumption) (by assumption))) (ev_ret (ret1 (fz_p (PLe.of_eq (congrArg Vinc.bool ?_)))))
    have key : ∀ a b : Bool, (bif (bif (bif a then b else false) then true else true) then true else false) = true := by decide
    exact key _ _

end Go.Proofs
