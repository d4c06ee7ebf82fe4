/- The laws of upoly: sums; powers. -/
import Derived.Test.YtmpfgaebmdbdeaaDoorLaw09
import Derived.Test.YtmpfgaebmdbdeaaDoorUpo2
set_option linter.unusedVariables false
namespace Go.Proofs
open Go Vinc Vinc.Num

theorem UpolyAdds_spec (p : Nat) (a b : List Nat) (hp : p < 18446744073709551616) : CallSpec Tryd.pr.P Tryd.pr.G 4 [u64 p, u64s a, u64s b] (Vinc.bool true) := by
  refine callSpec_of Tryd.pr Tryd.func4 rfl rfl rfl fun w0 ok0 hok hG => ?_
  refine ev_rs [] rfl trivial ?_
  by_cases hA : Asked p
  · have hm := asked_may hA
    have hf := asked_fd hA
    refine ev_rs [.tup 2 (two (polyF p) (Vinc.bool true))] rfl ⟨.inl (field_t hA), trivial⟩ ?_
    refine ev_seq (ev_rs [] rfl trivial (ev_cf rfl (ev_sk ?_)))
    refine ev_seq (ev_rs [Vinc.bool (fewB a b)] rfl (by repeat' (first | exact trivial | exact gd_t | exact gd_f | exact .inl (few_spec a b) | exact (fun _ => rfl) | intro _ | apply And.intro | assumption | exact rfl | exact gd_t (by assumption) | exact gd_f (by assumption) | exact gd_a (by assumption) (by assumption))) (ev_cond rfl (fun h => ?_) (fun h => ev_sk ?_)))
    · exact ev_rs [Vinc.bool true] rfl ⟨.inl awake_spec, trivial⟩ (ev_ret (ret1 (fz_p (PLe.refl _))))
    obtain ⟨ha, hb⟩ := fewB_t h
    have la := length_normN p a
    have lA := length_addN p a b
    have lS := length_subN p a b
    have lD : (deriveN p a).length ≤ a.length := by
      unfold deriveN
      rw [length_trimN]
      exact Nat.le_trans (trimL_le _ _) (by rw [length_tabL]; omega)
    have lM := monicF_len (p := p) (iv := minv p) (normN p a)
    have hN := RNorm_spec hm a (by omega)
    have hN2 := Norm_spec hm a (by omega)
    have hDg := Deg_spec hm a (by omega)
    have hA1 := UAdd_spec hm a b (by omega) (by omega)
    have hA2 : CallSpec Tryd.pr.P Tryd.pr.G 17 [u64s a, u64s b, u64 p] (u64s (addN p a b)) := by
      have := RAdd_spec hm a b (by omega) (by omega)
      rwa [rAdd_eq hf.pos] at this
    have hB1 := USub_spec hm a b (by omega) (by omega)
    have hB2 : CallSpec Tryd.pr.P Tryd.pr.G 19 [u64s a, u64s b, u64 p] (u64s (subN p a b)) := by
      have := RSub_spec hm a b (by omega) (by omega)
      rwa [rSub_eq hf.pos] at this
    have hC1 := Derive_spec hm a (by omega)
    have hC2 := RDerive_spec hm a (by omega)
    have hE1 := Monic_spec hm a (by omega)
    have hE2 := RMonic_spec hm hf a (by omega)
    have hSame : ∀ x : List Nat, x.length < 1000000 → CallSpec Tryd.pr.P Tryd.pr.G 13 [u64s x, u64s x] (Vinc.bool true) := fun x hx => by
      have := Same_spec x x hx hx
      rwa [decide_eq_true rfl] at this
    have s1 := hSame (normN p a) (by omega)
    have s2 := hSame (addN p a b) (by omega)
    have s3 := hSame (subN p a b) (by omega)
    have s4 := hSame (deriveN p a) (by omega)
    have s5 := hSame (monicF (minv p) p (normN p a)) (by omega)
    generalize normN p a = na at *
    generalize addN p a b = xA at *
    generalize subN p a b = xS at *
    generalize deriveN p a = xD at *
    generalize monicF (minv p) p na = xM at *
    refine ev_rs [u64s na] rfl ⟨.inl hN, trivial⟩ ?_
    refine ev_rs [u64s na, Vinc.bool true, i64 ((na.length : Int) - 1), u64s xA, u64s xA, Vinc.bool true, u64s xS, u64s xS, Vinc.bool true, u64s xD, u64s xD, Vinc.bool true, u64s xM, u64s xM, Vinc.bool true, Vinc.bool true] rfl
      (by repeat' (first | exact trivial | exact gd_t | exact gd_f | exact .inl hN2 | exact .inl hDg | exact .inl hA1 | exact .inl hA2 | exact .inl hB1 | exact .inl hB2 | exact .inl hC1 | exact .inl hC2 | exact .inl hE1 | exact .inl hE2 | exact .inl s1 | exact .inl s2 | exact .inl s3 | exact .inl s4 | exact .inl s5 | exact .inl awake_spec | exact (fun _ => rfl) | intro _ | apply And.intro | assumption | exact rfl | exact gd_t (by assumption) | exact gd_f (by assumption) | exact gd_a (by assumption) (by assumption))) (ev_ret (ret1 (fz_p (PLe.of_eq (congrArg Vinc.bool ?_)))))
    have hq : ((((na.length : Nat) : Int) - 1) == IntKind.wrap .i64 (((na.length : Nat) : Int) - 1)) = true := by
      rw [wrapI _ (by omega) (by omega)]
      exact beq_self_eq_true _
    have key : ∀ q : Bool, q = true → (bif (bif (bif (bif (bif (bif true then q else false) then true else false) then true else false) then true else false) then true else false) then true else false) = true := by decide
    exact key _ hq
  · refine ev_rs [.tup 2 (two nilP (Vinc.bool true))] rfl ⟨.inl (field_f hp hA), trivial⟩ ?_
    refine ev_seq (ev_rs [] rfl trivial (ev_cf rfl (ev_sk ?_)))
    refine ev_seq (ev_rs [Vinc.bool (fewB a b)] rfl (by repeat' (first | exact trivial | exact gd_t | exact gd_f | exact .inl (few_spec a b) | exact (fun _ => rfl) | intro _ | apply And.intro | assumption | exact rfl | exact gd_t (by assumption) | exact gd_f (by assumption) | exact gd_a (by assumption) (by assumption))) (ev_ct rfl ?_))
    exact ev_rs [Vinc.bool true] rfl ⟨.inl awake_spec, trivial⟩ (ev_ret (ret1 (fz_p (PLe.refl _))))

theorem UpolyPowers_spec (p : Nat) (a b : List Nat) (n : Nat) (hp : p < 18446744073709551616) (hn : n < 18446744073709551616) :
    CallSpec Tryd.pr.P Tryd.pr.G 6 [u64 p, .agg 2 (two (u64s a) (u64s b)), u64 n] (Vinc.bool true) := by
  refine callSpec_of Tryd.pr Tryd.func6 rfl rfl rfl fun w0 ok0 hok hG => ?_
  refine ev_rs [] rfl trivial ?_
  by_cases hA : Asked p
  · have hm := asked_may hA
    have hf := asked_fd hA
    refine ev_rs [.tup 2 (two (polyF p) (Vinc.bool true))] rfl ⟨.inl (field_t hA), trivial⟩ ?_
    refine ev_seq (ev_rs [] rfl trivial (ev_cf rfl (ev_sk ?_)))
    refine ev_rs [] rfl (by repeat' (first | exact trivial | exact gd_t | exact gd_f | exact leb rfl | exact Int.le_refl _ | exact (by decide : (0 : Int) < ((2 : Nat) : Int)) | exact (by decide : (0 : Int) ≤ 1) | exact (by decide : (1 : Int) < ((2 : Nat) : Int)) | exact (fun _ => rfl) | intro _ | apply And.intro | assumption | exact rfl | exact gd_t (by assumption) | exact gd_f (by assumption) | exact gd_a (by assumption) (by assumption))) ?_
    refine ev_rs [] rfl (by repeat' (first | exact trivial | exact gd_t | exact gd_f | exact leb rfl | exact Int.le_refl _ | exact (by decide : (0 : Int) < ((2 : Nat) : Int)) | exact (by decide : (0 : Int) ≤ 1) | exact (by decide : (1 : Int) < ((2 : Nat) : Int)) | exact (fun _ => rfl) | intro _ | apply And.intro | assumption | exact rfl | exact gd_t (by assumption) | exact gd_f (by assumption) | exact gd_a (by assumption) (by assumption))) ?_
    refine ev_seq (ev_rs [] rfl (by repeat' (first | exact trivial | exact gd_t | exact gd_f | exact (fun _ => rfl) | intro _ | apply And.intro | assumption | exact rfl | exact gd_t (by assumption) | exact gd_f (by assumption) | exact gd_a (by assumption) (by assumption))) (ev_cond rfl (fun h => ?_) (fun h => ev_sk ?_)))
    · exact ev_rs [Vinc.bool true] rfl ⟨.inl awake_spec, trivial⟩ (ev_ret (ret1 (fz_p (PLe.refl _))))
    obtain ⟨g1, g2⟩ := bool5 _ _ h
    have ha : a.length ≤ 10 := by have := of_decide_eq_false g1; omega
    have hb : b.length ≤ 10 := by have := of_decide_eq_false g2; omega
    refine ev_wk (σ' := mk [(0, .p (u64 p)), (2, .p (u64 n)), (7, .p (polyF p)), (9, .p (u64s a)), (10, .p (u64s b))] []) (wk (fun i => i) ⟨le_0, le_0, le_0, le_0, le_0, trivial⟩ trivial rfl) ?_
    have lb := length_normN p b
    have la := length_normN p a
    have hN := RNorm_spec hm b (by omega)
    have hE : ((((evalF p n a a.length : Nat) : Int)) != ((evalF p n a a.length : Nat) : Int)) = false := bne_self_eq_false _
    refine ev_seq (ev_rs [u64 (evalF p n a a.length), u64 (evalF p n a a.length)] rfl ⟨.inl (Value_spec hm a n (by omega) hn), .inl (Eval_spec hm a n (by omega)), trivial⟩ (ev_cf (congrArg (fun z => AV.p (PV.val (.bool z))) hE) (ev_sk ?_)))
    by_cases hb0 : (normN p b).length = 0
    · refine ev_rs [.tup 2 (two nilS (i64 10))] rfl ⟨.inl (PowMod_zero hm a n b (by omega) (by omega) hb0), trivial⟩ ?_
      have hc : ((((normN p b).length : Nat) : Int) == 0) = true := by rw [hb0]; rfl
      refine ev_seq (ev_rs [u64s (normN p b)] rfl ⟨.inl hN, trivial⟩ (ev_ct (congrArg (fun z => AV.p (PV.val (.bool z))) hc) ?_))
      exact ev_rs [Vinc.bool true] rfl (by repeat' (first | exact trivial | exact gd_t | exact gd_f | exact .inl awake_spec | exact (fun _ => rfl) | intro _ | apply And.intro | assumption | exact rfl | exact gd_t (by assumption) | exact gd_f (by assumption) | exact gd_a (by assumption) (by assumption))) (ev_ret (ret1 (fz_p (PLe.refl _))))
    · have hb0' : 0 < (normN p b).length := by omega
      have hnb := Nz.norm hf.pos b
      have hna := Nz.norm hf.pos a
      have r1 := remN_nz hf (Nz.one hf.prime.1) hnb hb0'
      have r2 := remN_nz hf hna hnb hb0'
      have hok := powOk_nz hf hnb hb0' (by omega) 64 n _ _ hn (by omega : (remN (minv p) p [1] (normN p b)).length ≤ 16) (by omega : (remN (minv p) p (normN p a) (normN p b)).length ≤ 16)
      have hP := PowMod_spec hm a n b hn (by omega) (by omega) hb0' hok
      have hR := RPowMod_spec hm hf a n b hn (by omega) (by omega) hb0'
      have hl := powF_len hf hnb hb0' 64 n (remN (minv p) p [1] (normN p b)) (remN (minv p) p (normN p a) (normN p b)) (by omega)
      obtain ⟨X, hX⟩ : ∃ X, powF (minv p) p (normN p b) 64 n (remN (minv p) p [1] (normN p b)) (remN (minv p) p (normN p a) (normN p b)) = X := ⟨_, rfl⟩
      rw [hX] at hP hR hl
      have hS := Same_spec X X (by omega) (by omega)
      rw [decide_eq_true rfl] at hS
      refine ev_rs [.tup 2 (two (u64s X) (i64 0))] rfl ⟨.inl hP, trivial⟩ ?_
      have hc : ((((normN p b).length : Nat) : Int) == 0) = false := beq_eq_false_iff_ne.mpr (by omega)
      refine ev_seq (ev_rs [u64s (normN p b)] rfl ⟨.inl hN, trivial⟩ (ev_cf (congrArg (fun z => AV.p (PV.val (.bool z))) hc) (ev_sk ?_)))
      exact ev_rs [u64s X, Vinc.bool true, Vinc.bool true] rfl (by repeat' (first | exact trivial | exact gd_t | exact gd_f | exact .inl hR | exact .inl hS | exact .inl awake_spec | exact (fun _ => rfl) | intro _ | apply And.intro | assumption | exact rfl | exact gd_t (by assumption) | exact gd_f (by assumption) | exact gd_a (by assumption) (by assumption))) (ev_ret (ret1 (fz_p (PLe.refl _))))
  · refine ev_rs [.tup 2 (two nilP (Vinc.bool true))] rfl ⟨.inl (field_f hp hA), trivial⟩ ?_
    refine ev_seq (ev_rs [] rfl trivial (ev_cf rfl (ev_sk ?_)))
    refine ev_rs [] rfl (by repeat' (first | exact trivial | exact gd_t | exact gd_f | exact leb rfl | exact Int.le_refl _ | exact (by decide : (0 : Int) < ((2 : Nat) : Int)) | exact (by decide : (0 : Int) ≤ 1) | exact (by decide : (1 : Int) < ((2 : Nat) : Int)) | exact (fun _ => rfl) | intro _ | apply And.intro | assumption | exact rfl | exact gd_t (by assumption) | exact gd_f (by assumption) | exact gd_a (by assumption) (by assumption))) ?_
    refine ev_rs [] rfl (by repeat' (first | exact trivial | exact gd_t | exact gd_f | exact leb rfl | exact Int.le_refl _ | exact (by decide : (0 : Int) < ((2 : Nat) : Int)) | exact (by decide : (0 : Int) ≤ 1) | exact (by decide : (1 : Int) < ((2 : Nat) : Int)) | exact (fun _ => rfl) | intro _ | apply And.intro | assumption | exact rfl | exact gd_t (by assumption) | exact gd_f (by assumption) | exact gd_a (by assumption) (by assumption))) ?_
    refine ev_seq (ev_rs [] rfl (by repeat' (first | exact trivial | exact gd_t | exact gd_f | exact (fun _ => rfl) | intro _ | apply And.intro | assumption | exact rfl | exact gd_t (by assumption) | exact gd_f (by assumption) | exact gd_a (by assumption) (by assumption))) (ev_ct rfl ?_))
    exact ev_rs [Vinc.bool true] rfl ⟨.inl awake_spec, trivial⟩ (ev_ret (ret1 (fz_p (PLe.refl _))))

end Go.Proofs
