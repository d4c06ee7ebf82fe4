/- The laws of upoly: the field, the chapter's example, division. -/
import Derived.Test.YtmpfgaebmdbdeaaGreatDoorUpo
set_option linter.unusedVariables false
namespace Go.Proofs
open Go Vinc Vinc.Num

theorem minv7 : minv 7 = iv7 := by
  funext x
  have hx : x % 7 < 7 := Nat.mod_lt _ (by decide)
  have h5 : x ^ 5 % 7 = (x % 7) ^ 5 % 7 := Nat.pow_mod _ _ _
  by_cases h0 : x % 7 = 0
  · rw [minv_none (by rw [← gcd_mod, h0]; decide)]
    show 0 = x ^ 5 % 7
    rw [h5, h0]
  · refine minv_eq (Nat.mod_lt _ (by decide)) ?_
    show x * (x ^ 5 % 7) % 7 = 1
    rw [Nat.mul_mod, Nat.mod_mod, h5]
    generalize x % 7 = r at *
    have : ∀ r, r < 7 → ¬ r = 0 → r * (r ^ 5 % 7) % 7 = 1 := by decide
    exact this r hx h0

theorem may7 : MayM 7 := ⟨by decide, by decide⟩
theorem isB7 : isB 7 = true := by decide +kernel
theorem prime7 : IsPrime 7 := isB_small (by decide) isB7
theorem asked7 : Asked 7 := .inr (.inr (.inr ⟨by decide, prime7⟩))

theorem awake_spec : CallSpec Tryz.pr.P Tryz.pr.G 11 [] (Vinc.bool true) := by
  have hD := DivM_ok may7 [1, 0, 1] [1, 1] (by decide) (by decide) (by decide)
  have hG1 := Gcd_spec may7 (asked_fd asked7) [6, 0, 1] [1, 1] (by decide) (by decide)
  rw [minv7] at hD hG1
  rw [show divN iv7 7 (normN 7 [1, 0, 1]) (normN 7 [1, 1]) = ([6, 1], [2]) by decide] at hD
  rw [show gcdN iv7 7 [6, 0, 1] [1, 1] = [1, 1] by decide] at hG1
  have hS1 := Same_spec [6, 1] [6, 1] (by decide) (by decide)
  have hS2 := Same_spec [2] [2] (by decide) (by decide)
  have hS3 := Same_spec [1, 1] [1, 1] (by decide) (by decide)
  rw [decide_eq_true rfl] at hS1 hS2 hS3
  refine callSpec_of Tryz.pr Tryz.func11 rfl rfl rfl fun w0 ok0 hok hG => ?_
  refine ev_rs [] rfl trivial ?_
  refine ev_rs [.tup 2 (two (polyF 7) (i64 0))] rfl ⟨.inl (UNew_ok may7 isB7), trivial⟩ ?_
  refine ev_seq (ev_rs [] rfl (by repeat' (first | exact trivial | exact gd_t | exact gd_f | exact (fun _ => rfl) | intro _ | apply And.intro | assumption | exact rfl | exact gd_t (by assumption) | exact gd_f (by assumption) | exact gd_a (by assumption) (by assumption))) (ev_cf rfl (ev_sk ?_)))
  refine ev_rs [.tup 3 (three (u64s [6, 1]) (u64s [2]) (i64 0))] rfl ⟨⟨⟨Nat.le_refl 3, Nat.le_refl 2, trivial⟩, .inl (callSpec_args (as' := [polyF 7, u64s [1, 0, 1], u64s [1, 1]]) ⟨PLe.refl _, PLe.lit rfl (fun j hj => ?_), PLe.lit rfl (fun j hj => ?_), trivial⟩ hD)⟩, trivial⟩ ?_
  · match j, hj with
    | 0, _ | 1, _ | 2, _ => rfl
  · match j, hj with
    | 0, _ | 1, _ => rfl
  refine ev_rs [u64s [1, 1]] rfl ⟨⟨⟨Nat.le_refl 3, Nat.le_refl 2, trivial⟩, .inl (callSpec_args (as' := [polyF 7, u64s [6, 0, 1], u64s [1, 1]]) ⟨PLe.refl _, PLe.lit rfl (fun j hj => ?_), PLe.lit rfl (fun j hj => ?_), trivial⟩ hG1)⟩, trivial⟩ ?_
  · match j, hj with
    | 0, _ | 1, _ | 2, _ => rfl
  · match j, hj with
    | 0, _ | 1, _ => rfl
  refine ev_rs [Vinc.bool true, Vinc.bool true, Vinc.bool true] rfl ?_ (ev_ret (ret1 (fz_p (PLe.of_eq rfl))))
  have hS1' : ∀ g : Nat → PV, (∀ j, j < 2 → g j = u64 ([6, 1].getD j 0)) → CallOk Tryz.pr.P Tryz.pr.G 13 [u64s [6, 1], .sl 2 1 g] (Vinc.bool true) := fun g hg =>
    .inl (callSpec_args (as' := [u64s [6, 1], u64s [6, 1]]) ⟨PLe.refl _, PLe.lit rfl hg, trivial⟩ hS1)
  have hS2' : ∀ g : Nat → PV, (∀ j, j < 1 → g j = u64 ([2].getD j 0)) → CallOk Tryz.pr.P Tryz.pr.G 13 [u64s [2], .sl 1 1 g] (Vinc.bool true) := fun g hg =>
    .inl (callSpec_args (as' := [u64s [2], u64s [2]]) ⟨PLe.refl _, PLe.lit rfl hg, trivial⟩ hS2)
  have hS3' : ∀ g : Nat → PV, (∀ j, j < 2 → g j = u64 ([1, 1].getD j 0)) → CallOk Tryz.pr.P Tryz.pr.G 13 [u64s [1, 1], .sl 2 1 g] (Vinc.bool true) := fun g hg =>
    .inl (callSpec_args (as' := [u64s [1, 1], u64s [1, 1]]) ⟨PLe.refl _, PLe.lit rfl hg, trivial⟩ hS3)
  repeat' (first | exact trivial | exact gd_t | exact gd_f | exact Nat.le_refl 2 | exact Nat.le_refl 1 | exact (fun _ => rfl) | intro _ | apply And.intro | assumption | exact rfl)
  · refine hS3' _ (fun j hj => ?_)
    match j, hj with
    | 0, _ => rfl
    | 1, _ => rfl
  · refine hS2' _ (fun j hj => ?_)
    match j, hj with
    | 0, _ => rfl
  · refine hS1' _ (fun j hj => ?_)
    match j, hj with
    | 0, _ => rfl
    | 1, _ => rfl

theorem LawPrime_t {p : Nat} (h : Asked p) : CallSpec Tryz.pr.P Tryz.pr.G 31 [u64 p] (Vinc.bool true) := askedB_t h ▸ LawPrime_spec p
theorem LawPrime_f {p : Nat} (h : ¬ Asked p) : CallSpec Tryz.pr.P Tryz.pr.G 31 [u64 p] (Vinc.bool false) := askedB_f h ▸ LawPrime_spec p

theorem field_t {p : Nat} (hA : Asked p) : CallSpec Tryz.pr.P Tryz.pr.G 9 [u64 p] (.tup 2 (two (polyF p) (Vinc.bool true))) := by
  refine callSpec_of Tryz.pr Tryz.func9 rfl rfl rfl fun w0 ok0 hok hG => ?_
  refine ev_rs [] rfl trivial ?_
  refine ev_rs [.tup 2 (two (polyF p) (i64 0))] rfl ⟨.inl (UNew_ok (asked_may hA) (isB_asked hA)), trivial⟩ ?_
  refine ev_seq (ev_rs [Vinc.bool true] rfl ⟨.inl (LawPrime_t hA), trivial⟩ (ev_ct rfl ?_))
  refine ev_rs [u64 p] rfl (by repeat' (first | exact trivial | exact gd_t | exact gd_f | exact .inl UP_spec | exact (fun _ => rfl) | intro _ | apply And.intro | assumption | exact rfl | exact gd_t (by assumption) | exact gd_f (by assumption) | exact gd_a (by assumption) (by assumption))) (ev_ret (ret2 (fz_p (PLe.refl _)) (fz_p (PLe.of_eq (congrArg Vinc.bool ?_)))))
  have key : ∀ z : Int, (bif (bif true then ((0 : Int) == 0) else false) then (z == z) else false) = true := fun z => by rw [beq_self_eq_true z]; rfl
  exact key _

theorem bool5 : ∀ a b : Bool, (bif a then true else b) = false → a = false ∧ b = false := by decide

theorem field_f {p : Nat} (hp : p < 18446744073709551616) (hA : ¬ Asked p) : CallSpec Tryz.pr.P Tryz.pr.G 9 [u64 p] (.tup 2 (two nilP (Vinc.bool true))) := by
  by_cases hB : p < 9223372036854775808 ∧ isB p = true
  · have hbig : 100000 < p := by
      rcases Nat.lt_or_ge 100000 p with h1 | h1
      · exact h1
      · have := isB_not hA h1
        rw [hB.2] at this; cases this
    have hm : MayM p := ⟨by omega, hB.1⟩
    refine callSpec_of Tryz.pr Tryz.func9 rfl rfl rfl fun w0 ok0 hok hG => ?_
    refine ev_rs [] rfl trivial ?_
    refine ev_rs [.tup 2 (two (polyF p) (i64 0))] rfl ⟨.inl (UNew_ok hm hB.2), trivial⟩ ?_
    refine ev_seq (ev_rs [Vinc.bool false] rfl ⟨.inl (LawPrime_f hA), trivial⟩ (ev_cf rfl (ev_sk ?_)))
    have hc : (bif decide ((p : Int) ≤ 100000) then true else decide ((p : Int) ≥ 9223372036854775808)) = false := by
      rw [decide_eq_false (by omega), decide_eq_false (by omega)]; rfl
    refine ev_seq (ev_rs [] rfl (by repeat' (first | exact trivial | exact gd_t | exact gd_f | exact (fun _ => rfl) | intro _ | apply And.intro | assumption | exact rfl | exact gd_t (by assumption) | exact gd_f (by assumption) | exact gd_a (by assumption) (by assumption))) (ev_cf (congrArg (fun z => AV.p (PV.val (.bool z))) hc) (ev_sk ?_)))
    exact ev_rs [] rfl trivial (ev_ret (ret2 (fz_p (PLe.refl _)) (fz_p (PLe.refl _))))
  · refine callSpec_of Tryz.pr Tryz.func9 rfl rfl rfl fun w0 ok0 hok hG => ?_
    refine ev_rs [] rfl trivial ?_
    refine ev_rs [.tup 2 (two nilP (i64 14))] rfl ⟨.inl (UNew_no hp hB), trivial⟩ ?_
    refine ev_seq (ev_rs [Vinc.bool false] rfl ⟨.inl (LawPrime_f hA), trivial⟩ (ev_cf rfl (ev_sk ?_)))
    refine ev_seq (ev_rs [] rfl (by repeat' (first | exact trivial | exact gd_t | exact gd_f | exact (fun _ => rfl) | intro _ | apply And.intro | assumption | exact rfl | exact gd_t (by assumption) | exact gd_f (by assumption) | exact gd_a (by assumption) (by assumption))) (ev_cond rfl (fun h => ?_) (fun h => ev_sk ?_)))
    · exact ev_rs [] rfl (by repeat' (first | exact trivial | exact gd_t | exact gd_f | exact (fun _ => rfl) | intro _ | apply And.intro | assumption | exact rfl | exact gd_t (by assumption) | exact gd_f (by assumption) | exact gd_a (by assumption) (by assumption))) (ev_ret (ret2 (fz_p (PLe.refl _)) (fz_p (PLe.refl _))))
    · exact ev_rs [] rfl trivial (ev_ret (ret2 (fz_p (PLe.refl _)) (fz_p (PLe.refl _))))

def fewB (a b : List Nat) : Bool := bif decide ((a.length : Int) ≤ 40) then decide ((b.length : Int) ≤ 40) else false

theorem few_spec (a b : List Nat) : CallSpec Tryz.pr.P Tryz.pr.G 10 [u64s a, u64s b] (Vinc.bool (fewB a b)) := by
  refine callSpec_of Tryz.pr Tryz.func10 rfl rfl rfl fun w0 ok0 hok hG => ?_
  refine ev_rs [] rfl trivial ?_
  exact ev_rs [] rfl (by repeat' (first | exact trivial | exact gd_t | exact gd_f | exact (fun _ => rfl) | intro _ | apply And.intro | assumption | exact rfl | exact gd_t (by assumption) | exact gd_f (by assumption) | exact gd_a (by assumption) (by assumption))) (ev_ret (ret1 (fz_p (PLe.refl _))))

theorem fewB_t {a b : List Nat} (h : (!fewB a b) = false) : a.length ≤ 40 ∧ b.length ≤ 40 := by
  unfold fewB at h
  cases h1 : decide ((a.length : Int) ≤ 40) <;> cases h2 : decide ((b.length : Int) ≤ 40) <;> rw [h1, h2] at h <;> try (cases h; done)
  have := of_decide_eq_true h1
  have := of_decide_eq_true h2
  omega

end Go.Proofs
