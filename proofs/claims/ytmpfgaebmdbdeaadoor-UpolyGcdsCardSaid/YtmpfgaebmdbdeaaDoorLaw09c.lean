/- The laws of upoly: divisors. -/
import Derived.Test.YtmpfgaebmdbdeaaDoorLaw09
import Derived.Test.YtmpfgaebmdbdeaaDoorUpo4
set_option linter.unusedVariables false
namespace Go.Proofs
open Go Vinc Vinc.Num

theorem UpolyGcds_spec (p : Nat) (a b : List Nat) (hp : p < 18446744073709551616) : CallSpec Tryd.pr.P Tryd.pr.G 5 [u64 p, u64s a, u64s b] (Vinc.bool true) := by
  refine callSpec_of Tryd.pr Tryd.func5 rfl rfl rfl fun w0 ok0 hok hG => ?_
  refine ev_rs [] rfl trivial ?_
  by_cases hA : Asked p
  · have hm := asked_may hA
    have hf := asked_fd hA
    refine ev_rs [.tup 2 (two (polyF p) (Vinc.bool true))] rfl ⟨.inl (field_t hA), trivial⟩ ?_
    refine ev_seq (ev_rs [] rfl trivial (ev_cf rfl (ev_sk ?_)))
    refine ev_seq (ev_rs [] rfl (by repeat' (first | exact trivial | exact gd_t | exact gd_f | exact (fun _ => rfl) | intro _ | apply And.intro | assumption | exact rfl | exact gd_t (by assumption) | exact gd_f (by assumption) | exact gd_a (by assumption) (by assumption))) (ev_cond rfl (fun h => ?_) (fun h => ev_sk ?_)))
    · exact ev_rs [Vinc.bool true] rfl ⟨.inl awake_spec, trivial⟩ (ev_ret (ret1 (fz_p (PLe.refl _))))
    obtain ⟨g1, g2⟩ := bool5 _ _ h
    have ha : a.length ≤ 20 := by have := of_decide_eq_false g1; omega
    have hb : b.length ≤ 20 := by have := of_decide_eq_false g2; omega
    have hE1 := Ext_spec hm hf a b (by omega) (by omega)
    have hE2 := RExt_spec hm hf a b (by omega) (by omega)
    have hG1 := Gcd_spec hm hf a b (by omega) (by omega)
    have hG2 := RGcd_spec hm hf a b (by omega) (by omega)
    obtain ⟨l1, l2, l3⟩ := extR_len hf a b (by omega) (by omega)
    have l4 := gcdN_len hf a b (by omega) (by omega)
    have hSame : ∀ x : List Nat, x.length < 1000000 → CallSpec Tryd.pr.P Tryd.pr.G 13 [u64s x, u64s x] (Vinc.bool true) := fun x hx => by
      have := Same_spec x x hx hx
      rwa [decide_eq_true rfl] at this
    have s1 := hSame (gcdN (minv p) p a b) (by omega)
    have s2 := hSame (extR (minv p) p (normN p a) (normN p b)).1 (by omega)
    have s3 := hSame (extR (minv p) p (normN p a) (normN p b)).2.1 (by omega)
    have s4 := hSame (extR (minv p) p (normN p a) (normN p b)).2.2 (by omega)
    generalize gcdN (minv p) p a b = G at *
    generalize extR (minv p) p (normN p a) (normN p b) = X at *
    obtain ⟨x1, x2, x3⟩ := X
    refine ev_rs [.tup 3 (three (u64s x1) (u64s x2) (u64s x3))] rfl ⟨.inl hE1, trivial⟩ ?_
    refine ev_rs [.tup 3 (three (u64s x1) (u64s x2) (u64s x3))] rfl ⟨.inl hE2, trivial⟩ ?_
    exact ev_rs [u64s G, u64s G, Vinc.bool true, Vinc.bool true, Vinc.bool true, Vinc.bool true, Vinc.bool true] rfl
      (by repeat' (first | exact trivial | exact gd_t | exact gd_f | exact .inl hG1 | exact .inl hG2 | exact .inl s1 | exact .inl s2 | exact .inl s3 | exact .inl s4 | exact .inl awake_spec | exact (fun _ => rfl) | intro _ | apply And.intro | assumption | exact rfl | exact gd_t (by assumption) | exact gd_f (by assumption) | exact gd_a (by assumption) (by assumption))) (ev_ret (ret1 (fz_p (PLe.refl _))))
  · refine ev_rs [.tup 2 (two nilP (Vinc.bool true))] rfl ⟨.inl (field_f hp hA), trivial⟩ ?_
    refine ev_seq (ev_rs [] rfl trivial (ev_cf rfl (ev_sk ?_)))
    refine ev_seq (ev_rs [] rfl (by repeat' (first | exact trivial | exact gd_t | exact gd_f | exact (fun _ => rfl) | intro _ | apply And.intro | assumption | exact rfl | exact gd_t (by assumption) | exact gd_f (by assumption) | exact gd_a (by assumption) (by assumption))) (ev_ct rfl ?_))
    exact ev_rs [Vinc.bool true] rfl ⟨.inl awake_spec, trivial⟩ (ev_ret (ret1 (fz_p (PLe.refl _))))

end Go.Proofs
