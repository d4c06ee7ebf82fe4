/- The laws of recur: the chapter's example; what a rule's polynomial is. -/
import Derived.Test.YthgkmbeeicpmcaaDoorPoly
set_option linter.unusedVariables false
namespace Go.Proofs
open Go Vinc Vinc.Num

theorem minv7 : minv 7 = iv7 := by
  funext x
  have hx : x % 7 < 7 := Nat.mod_lt _ (by decide)
  have h5 : x ^ 5 % 7 = (x % 7) ^ 5 % 7 := Nat.pow_mod _ _ _
  by_cases h0 : x % 7 = 0
  · rw [minv_none (by rw [← gcd_mod, h0]; decide)]
    show 0 = x ^ 5 % 7
    rw [h5, h0]
  · refine minv_eq (Nat.mod_lt _ (by decide)) ?_
    show x * (x ^ 5 % 7) % 7 = 1
    rw [Nat.mul_mod, Nat.mod_mod, h5]
    generalize x % 7 = r at *
    have : ∀ r, r < 7 → ¬ r = 0 → r * (r ^ 5 % 7) % 7 = 1 := by decide
    exact this r hx h0

theorem may7 : MayM 7 := ⟨by decide, by decide⟩
theorem isB7 : isB 7 = true := by decide +kernel

theorem awake_spec : CallSpec Tryd.pr.P Tryd.pr.G 9 [] (Vinc.bool true) := by
  have hF := Find_ok may7 isB7 [1, 1, 2, 3, 5, 1] (by decide)
  have hM := More_ok may7 isB7 [6, 6] [1, 1] 3 (by decide) (by decide) (by decide)
  have hX := Far_ok may7 isB7 [6, 6] [1, 1] 1000000 (by decide) (by decide) (by decide) (by decide) (by rw [minv7]; exact farOk7) (by rw [minv7]; exact farL7)
  rw [minv7] at hF hX
  have hF : CallSpec _ _ _ [u64 7, u64s [1, 1, 2, 3, 5, 1]] (.tup 2 (two (u64s (findN iv7 7 [1, 1, 2, 3, 5, 1] 6).now) (i64 0))) := hF
  rw [find7] at hF
  have e3 : ([1, 1].map (· % 7)) = [1, 1] := rfl
  rw [e3, more7] at hM
  rw [far7] at hX
  have hS1 := Same_spec [6, 6] [6, 6] (by decide) (by decide)
  have hS2 := Same_spec [1, 1, 2, 3, 5] [1, 1, 2, 3, 5] (by decide) (by decide)
  rw [decide_eq_true rfl] at hS1 hS2
  refine callSpec_of Tryd.pr Tryd.func9 rfl rfl rfl fun w0 ok0 hok hG => ?_
  refine ev_rs [] rfl trivial ?_
  refine ev_rs [.tup 2 (two (u64s [6, 6]) (i64 0))] rfl ⟨⟨⟨Nat.le_refl 6, trivial⟩, .inl (callSpec_args (as' := [u64 7, u64s [1, 1, 2, 3, 5, 1]]) ⟨PLe.refl _, PLe.lit rfl (fun j hj => ?_), trivial⟩ hF)⟩, trivial⟩ ?_
  · match j, hj with
    | 0, _ | 1, _ | 2, _ | 3, _ | 4, _ | 5, _ => rfl
  refine ev_rs [.tup 2 (two (u64s [1, 1, 2, 3, 5]) (i64 0))] rfl ⟨⟨⟨Nat.le_refl 2, Nat.le_refl 2, trivial⟩, .inl (callSpec_args (as' := [u64 7, u64s [6, 6], u64s [1, 1], i64 (3 : Nat)]) ⟨PLe.refl _, PLe.lit rfl (fun j hj => ?_), PLe.lit rfl (fun j hj => ?_), PLe.refl _, trivial⟩ hM)⟩, trivial⟩ ?_
  · match j, hj with
    | 0, _ | 1, _ => rfl
  · match j, hj with
    | 0, _ | 1, _ => rfl
  refine ev_rs [.tup 2 (two (u64 1) (i64 0))] rfl ⟨⟨⟨Nat.le_refl 2, Nat.le_refl 2, trivial⟩, .inl (callSpec_args (as' := [u64 7, u64s [6, 6], u64s [1, 1], u64 1000000]) ⟨PLe.refl _, PLe.lit rfl (fun j hj => ?_), PLe.lit rfl (fun j hj => ?_), PLe.refl _, trivial⟩ hX)⟩, trivial⟩ ?_
  · match j, hj with
    | 0, _ | 1, _ => rfl
  · match j, hj with
    | 0, _ | 1, _ => rfl
  refine ev_rs [Vinc.bool true, Vinc.bool true] rfl ?_ (ev_ret (ret1 (fz_p (PLe.of_eq rfl))))
  have hS2' : ∀ g : Nat → PV, (∀ j, j < 5 → g j = u64 ([1, 1, 2, 3, 5].getD j 0)) → CallOk Tryd.pr.P Tryd.pr.G 19 [u64s [1, 1, 2, 3, 5], .sl 5 1 g] (Vinc.bool true) := fun g hg =>
    .inl (callSpec_args (as' := [u64s [1, 1, 2, 3, 5], u64s [1, 1, 2, 3, 5]]) ⟨PLe.refl _, PLe.lit rfl hg, trivial⟩ hS2)
  have hS1' : ∀ g : Nat → PV, (∀ j, j < 2 → g j = u64 ([6, 6].getD j 0)) → CallOk Tryd.pr.P Tryd.pr.G 19 [u64s [6, 6], .sl 2 1 g] (Vinc.bool true) := fun g hg =>
    .inl (callSpec_args (as' := [u64s [6, 6], u64s [6, 6]]) ⟨PLe.refl _, PLe.lit rfl hg, trivial⟩ hS1)
  repeat' (first | exact trivial | exact gd_t | exact gd_f | exact Nat.le_refl 2 | exact Nat.le_refl 5 | exact (fun _ => rfl) | intro _ | apply And.intro | assumption | exact rfl)
  · refine hS2' _ (fun j hj => ?_)
    match j, hj with
    | 0, _ => rfl
    | 1, _ => rfl
    | 2, _ => rfl
    | 3, _ => rfl
    | 4, _ => rfl
  · refine hS1' _ (fun j hj => ?_)
    match j, hj with
    | 0, _ | 1, _ => rfl

/-- A number that is told to be a prime, and is not asked for. -/
theorem told_big {p : Nat} (h : ¬ Asked p) (hb : isB p = true) : 100000 < p := by
  rcases Nat.lt_or_ge 100000 p with h1 | h1
  · exact h1
  · rw [isB_not h h1] at hb; cases hb

theorem LawPrime_t {p : Nat} (h : Asked p) : CallSpec Tryd.pr.P Tryd.pr.G 11 [u64 p] (Vinc.bool true) := askedB_t h ▸ LawPrime_spec p
theorem LawPrime_f {p : Nat} (h : ¬ Asked p) : CallSpec Tryd.pr.P Tryd.pr.G 11 [u64 p] (Vinc.bool false) := askedB_f h ▸ LawPrime_spec p

theorem RecurChars_spec (p : Nat) (r : List Nat) (hp : p < 18446744073709551616) : CallSpec Tryd.pr.P Tryd.pr.G 4 [u64 p, u64s r] (Vinc.bool true) := by
  refine callSpec_of Tryd.pr Tryd.func4 rfl rfl rfl fun w0 ok0 hok hG => ?_
  refine ev_rs [] rfl trivial ?_
  refine ev_seq (ev_rs [] rfl trivial (ev_cond rfl (fun h => ?_) (fun h => ev_sk ?_)))
  · exact ev_rs [Vinc.bool true] rfl ⟨.inl awake_spec, trivial⟩ (ev_ret (ret1 (fz_p (PLe.refl _))))
  have hr : r.length ≤ 60 := by
    have := of_decide_eq_false h
    omega
  by_cases hA : Asked p
  · have hm := asked_may hA
    have hp0 := hm.1
    have hlen := length_charN p r
    have hlast := charN_last p r
    refine ev_rs [.tup 2 (two (u64s (charN p r)) (i64 0))] rfl ⟨.inl (Char_ok hm (isB_asked hA) r (by omega)), trivial⟩ ?_
    refine ev_seq (ev_rs [Vinc.bool true] rfl ⟨.inl (LawPrime_t hA), trivial⟩ (ev_cf rfl (ev_sk ?_)))
    have e1 : IntKind.wrap .i64 ((r.length : Int) + 1) = ((r.length + 1 : Nat) : Int) := by rw [wrapI _ (by omega) (by omega)]; rfl
    refine ev_seq (ev_rs [] rfl ?_ (ev_cond rfl (fun h => ?_) (fun h => ev_sk ?_)))
    · have hlt : r.length < (charN p r).length := by omega
      exact (by repeat' (first | exact trivial | exact gd_t | exact gd_f | exact hlt | exact Int.natCast_nonneg _ | exact Int.ofNat_lt.mpr hlt | exact (fun _ => rfl) | intro _ | apply And.intro | assumption | exact rfl | exact gd_t (by assumption) | exact gd_f (by assumption) | exact gd_a (by assumption) (by assumption)))
    · exfalso
      have h : (bif (bif ((0 : Int) != 0) then true else (((charN p r).length : Int) != IntKind.wrap .i64 ((r.length : Int) + 1))) then true else ((((charN p r).getD r.length 0 : Nat) : Int) != 1)) = true := h
      rw [e1, hlen, hlast] at h
      have e2 : ((((r.length + 1 : Nat) : Int)) != ((r.length + 1 : Nat) : Int)) = false := bne_self_eq_false _
      rw [e2] at h
      cases h
    refine ev_at (α := Unit) (fun _ => True) (fun _ => []) (fun _ => []) ?_ ?_
    · refine ev_rs [] rfl trivial ?_
      refine ev_block (ev_while0 (α := Nat) (fun i => i ≤ r.length) (fun i => [(0, .p (u64 p)), (1, .p (u64s r)), (5, .p (u64s (charN p r))), (7, .p (i64 i))]) (fun i => r.length - i) 0
        (Nat.zero_le _) ⟨le_0, le_0, le_0, le_0, trivial⟩ ?_)
      rintro i h1
      refine ev_seq (ev_rs [] rfl trivial (ev_cond rfl (fun h => ev_sk ?_) (fun h => ev_exit ?_)))
      · have hi : i < r.length := Int.ofNat_lt.mp (of_decide_eq_true h)
        refine ev_seq (ev_block ?_)
        have e3 : IntKind.wrap .i64 (IntKind.wrap .i64 ((r.length : Int) - 1) - (i : Int)) = ((r.length - 1 - i : Nat) : Int) := by
          rw [wrapI ((r.length : Int) - 1) (by omega) (by omega), wrapI _ (by omega) (by omega)]; omega
        have hat := charN_at p r (r.length - 1 - i) (by omega)
        rw [show r.length - 1 - (r.length - 1 - i) = i by omega] at hat
        refine ev_ds [] (by kernel_rfl) rfl rfl ?_ (ev_cond rfl (fun h => ?_) (fun h => ?_))
        · rw [e3]
          exact ⟨by simp; omega, hi, ⟨by omega, by omega⟩, (by omega : r.length - 1 - i < (charN p r).length), ⟨by omega, by omega⟩, trivial⟩
        · exfalso
          have h : (((charN p r).getD (IntKind.wrap .i64 (IntKind.wrap .i64 ((r.length : Int) - 1) - (i : Int))).toNat 0 : Nat) != (((r.getD i 0 : Nat) : Int).tmod (p : Int))) = true := h
          rw [e3] at h
          have h : ((((charN p r).getD (r.length - 1 - i) 0 : Nat) : Int) != (((r.getD i 0 : Nat) : Int).tmod (p : Int))) = true := h
          rw [hat] at h
          exact (bne_iff_ne.mp h) rfl
        · refine ev_skip ?_
          exact ev_region [] rfl trivial (round0 (i + 1) hi (by omega) ⟨le_0, le_0, le_0, le_e (congrArg (fun z => PV.val (.int .i64 z)) (wrapI _ (by omega) (by omega))), trivial⟩)
      · exact at0 () trivial trivial
    rintro ⟨⟩ -
    exact ev_rs [Vinc.bool true] rfl ⟨.inl awake_spec, trivial⟩ (ev_ret (ret1 (fz_p (PLe.refl _))))
  by_cases hB : p < 9223372036854775808 ∧ isB p = true
  · have hbig := told_big hA hB.2
    have hm : MayM p := ⟨by omega, hB.1⟩
    refine ev_rs [.tup 2 (two (u64s (charN p r)) (i64 0))] rfl ⟨.inl (Char_ok hm hB.2 r (by omega)), trivial⟩ ?_
    refine ev_seq (ev_rs [Vinc.bool false] rfl ⟨.inl (LawPrime_f hA), trivial⟩ (ev_ct rfl ?_))
    refine ev_rs [Vinc.bool true] rfl (by repeat' (first | exact trivial | exact gd_t | exact gd_f | exact .inl awake_spec | exact (fun _ => rfl) | intro _ | apply And.intro | assumption | exact rfl | exact gd_t (by assumption) | exact gd_f (by assumption) | exact gd_a (by assumption) (by assumption))) (ev_ret (ret1 (fz_p (PLe.of_eq (congrArg Vinc.bool ?_)))))
    have hd1 : decide ((p : Int) > 100000) = true := decide_eq_true (by omega)
    have hd2 : decide ((p : Int) < 9223372036854775808) = true := decide_eq_true (by omega)
    show (bif (bif (bif decide ((p : Int) > 100000) then decide ((p : Int) < 9223372036854775808) else false) then true else _) then true else false) = true
    rw [hd1, hd2]
    rfl
  · refine ev_rs [.tup 2 (two nilS (i64 14))] rfl ⟨.inl (Char_no hp hB _), trivial⟩ ?_
    refine ev_seq (ev_rs [Vinc.bool false] rfl ⟨.inl (LawPrime_f hA), trivial⟩ (ev_ct rfl ?_))
    refine ev_rs [Vinc.bool true] rfl (by repeat' (first | exact trivial | exact gd_t | exact gd_f | exact .inl awake_spec | exact (fun _ => rfl) | intro _ | apply And.intro | assumption | exact rfl | exact gd_t (by assumption) | exact gd_f (by assumption) | exact gd_a (by assumption) (by assumption))) (ev_ret (ret1 (fz_p (PLe.of_eq (congrArg Vinc.bool ?_)))))
    have key : ∀ a b : Bool, (bif (bif (bif a then b else false) then true else true) then true else false) = true := by decide
    exact key _ _

end Go.Proofs
