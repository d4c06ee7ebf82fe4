/- The numbers modulo a word: sums, differences, products, powers. -/
import Derived.Test.YtmpfgaebmdbdeaaGreatDoorDiv
set_option linter.unusedVariables false
namespace Go.Proofs
open Go Vinc

/-- A field: its word, and what it keeps of it. -/
abbrev fld (m back two : Nat) : PV := .ptr 3 (three (u64 m) (u64 back) (u64 two)) 0

/-- A word that may be a modulus. -/
def MayM (m : Nat) : Prop := 2 ≤ m ∧ m < 9223372036854775808

theorem add_ge {x y m : Nat} (hm : 0 < m) (h : m ≤ x % m + y % m) : x % m + y % m - m = (x + y) % m := by
  have hx : x % m < m := Nat.mod_lt _ hm
  have hy : y % m < m := Nat.mod_lt _ hm
  rw [Nat.add_mod x y m]
  generalize x % m = a at *
  generalize y % m = b at *
  rw [Nat.mod_eq_sub_mod h, Nat.mod_eq_of_lt (by omega)]

theorem add_lt' {x y m : Nat} (h : x % m + y % m < m) : x % m + y % m = (x + y) % m := by
  rw [Nat.add_mod x y m, Nat.mod_eq_of_lt h]

/-- The difference modulo a number. -/
def subM (x y m : Nat) : Nat := (x % m + m - y % m) % m

theorem sub_lt' {x y m : Nat} (hm : 0 < m) (h : x % m < y % m) : x % m + m - y % m = subM x y m := by
  unfold subM
  rw [Nat.mod_eq_of_lt (by omega : x % m + m - y % m < m)]

theorem sub_ge {x y m : Nat} (hm : 0 < m) (h : y % m ≤ x % m) : x % m - y % m = subM x y m := by
  have hx : x % m < m := Nat.mod_lt _ hm
  unfold subM
  generalize x % m = a at *
  generalize y % m = b at *
  rw [show a + m - b = (a - b) + m by omega, Nat.add_mod_right, Nat.mod_eq_of_lt (by omega)]

section
variable {m b t : Nat}

theorem M_spec : CallSpec Tryz.pr.P Tryz.pr.G 46 [fld m b t] (u64 m) := by
  refine callSpec_of Tryz.pr Tryz.func46 rfl rfl rfl fun w0 ok0 hok hG => ?_
  refine ev_rs [] rfl trivial ?_
  refine ev_seq (ev_rs [] rfl trivial (ev_cf rfl (ev_sk ?_)))
  refine ev_rs [] rfl ⟨by decide, trivial⟩ ?_
  exact ev_ret (ret1 (fz_p (PLe.refl _)))

theorem M_nil : CallSpec Tryz.pr.P Tryz.pr.G 46 [nilP] (u64 0) := by
  refine callSpec_of Tryz.pr Tryz.func46 rfl rfl rfl fun w0 ok0 hok hG => ?_
  refine ev_rs [] rfl trivial ?_
  refine ev_seq (ev_rs [] rfl trivial (ev_ct rfl ?_))
  exact ev_rs [] rfl trivial (ev_ret (ret1 (fz_p (PLe.refl _))))

theorem Of_nil (x : Nat) : CallSpec Tryz.pr.P Tryz.pr.G 41 [nilP, u64 x] (u64 0) := by
  refine callSpec_of Tryz.pr Tryz.func41 rfl rfl rfl fun w0 ok0 hok hG => ?_
  refine ev_rs [] rfl trivial ?_
  refine ev_seq (ev_rs [] rfl trivial (ev_ct rfl ?_))
  exact ev_rs [] rfl trivial (ev_ret (ret1 (fz_p (PLe.refl _))))

theorem Of_spec (hm : MayM m) (x : Nat) : CallSpec Tryz.pr.P Tryz.pr.G 41 [fld m b t, u64 x] (u64 (x % m)) := by
  have hm0 : m ≠ 0 := by have := hm.1; omega
  refine callSpec_of Tryz.pr Tryz.func41 rfl rfl rfl fun w0 ok0 hok hG => ?_
  refine ev_rs [] rfl trivial ?_
  refine ev_seq (ev_rs [] rfl trivial (ev_cf rfl (ev_sk ?_)))
  refine ev_rs [] rfl ⟨by simpa using hm0, by decide, trivial⟩ ?_
  exact ev_ret (ret1 (fz_p (PLe.refl _)))

theorem Add_nil (x y : Nat) : CallSpec Tryz.pr.P Tryz.pr.G 39 [nilP, u64 x, u64 y] (u64 0) := by
  refine callSpec_of Tryz.pr Tryz.func39 rfl rfl rfl fun w0 ok0 hok hG => ?_
  refine ev_rs [] rfl trivial ?_
  refine ev_seq (ev_rs [] rfl trivial (ev_ct rfl ?_))
  exact ev_rs [] rfl trivial (ev_ret (ret1 (fz_p (PLe.refl _))))

theorem Add_spec (hm : MayM m) (x y : Nat) : CallSpec Tryz.pr.P Tryz.pr.G 39 [fld m b t, u64 x, u64 y] (u64 ((x + y) % m)) := by
  have hm0 : m ≠ 0 := by have := hm.1; omega
  have hm2 := hm.2
  have hx : x % m < m := Nat.mod_lt _ (by omega)
  have hy : y % m < m := Nat.mod_lt _ (by omega)
  have e := Nat.add_mod x y m
  refine callSpec_of Tryz.pr Tryz.func39 rfl rfl rfl fun w0 ok0 hok hG => ?_
  refine ev_rs [] rfl trivial ?_
  refine ev_seq (ev_rs [] rfl trivial (ev_cf rfl (ev_sk ?_)))
  refine ev_ds [] (by kernel_rfl) rfl rfl ⟨by simpa using hm0, by decide, by simpa using hm0, by decide, trivial⟩ (ev_n 7 (x % m + y % m) rfl ((wrapAdd _ _).trans (by rw [Nat.mod_eq_of_lt (by omega)])) ?_)
  refine ev_at (α := Unit) (fun _ => True) (fun _ => [(7, .p (u64 ((x + y) % m)))]) (fun _ => []) ?_ ?_
  · refine ev_rs [] rfl ⟨by decide, trivial⟩ (ev_cond rfl (fun h => ?_) (fun h => ?_))
    · have h' := of_decide_eq_true h
      refine ev_region [] rfl ⟨by decide, trivial⟩ (at0 () trivial ⟨le_e (congrArg (fun z => PV.val (.int .u64 z)) ?_), trivial⟩)
      show IntKind.wrap .u64 (((x % m + y % m : Nat) : Int) - (m : Int)) = _
      rw [wrapSub _ _ (by omega) (by omega)]
      exact toN (add_ge (by omega) (by omega))
    · have h' := of_decide_eq_false h
      refine ev_skip (at0 () trivial ⟨le_e (congrArg u64 ?_), trivial⟩)
      exact add_lt' (by omega)
  · rintro ⟨⟩ -
    refine ev_rs [] rfl trivial ?_
    exact ev_ret (ret1 (fz_p (PLe.refl _)))

theorem Sub_nil (x y : Nat) : CallSpec Tryz.pr.P Tryz.pr.G 47 [nilP, u64 x, u64 y] (u64 0) := by
  refine callSpec_of Tryz.pr Tryz.func47 rfl rfl rfl fun w0 ok0 hok hG => ?_
  refine ev_rs [] rfl trivial ?_
  refine ev_seq (ev_rs [] rfl trivial (ev_ct rfl ?_))
  exact ev_rs [] rfl trivial (ev_ret (ret1 (fz_p (PLe.refl _))))

theorem Sub_spec (hm : MayM m) (x y : Nat) : CallSpec Tryz.pr.P Tryz.pr.G 47 [fld m b t, u64 x, u64 y] (u64 (subM x y m)) := by
  have hm0 : m ≠ 0 := by have := hm.1; omega
  have hm2 := hm.2
  have hx : x % m < m := Nat.mod_lt _ (by omega)
  have hy : y % m < m := Nat.mod_lt _ (by omega)
  refine callSpec_of Tryz.pr Tryz.func47 rfl rfl rfl fun w0 ok0 hok hG => ?_
  refine ev_rs [] rfl trivial ?_
  refine ev_seq (ev_rs [] rfl trivial (ev_cf rfl (ev_sk ?_)))
  refine ev_ds [] (by kernel_rfl) rfl rfl ⟨by simpa using hm0, by decide, by simpa using hm0, by decide, trivial⟩ ?_
  refine ev_at (α := Nat) (fun z => y % m ≤ z ∧ z < 18446744073709551616 ∧ z - y % m = subM x y m) (fun z => [(1, .p (u64 z)), (2, .p (u64 (y % m)))]) (fun _ => []) ?_ ?_
  · refine ev_rs [] rfl trivial (ev_cond rfl (fun h => ?_) (fun h => ?_))
    · have h' := of_decide_eq_true h
      have h'' : x % m < y % m := Int.ofNat_lt.mp h'
      refine ev_region [] rfl ⟨by decide, trivial⟩ (at0 (x % m + m) ⟨by omega, by omega, ?_⟩ ⟨le_e (congrArg (fun z => PV.val (.int .u64 z)) ?_), le_0, trivial⟩)
      · exact sub_lt' (by omega) h''
      · show IntKind.wrap .u64 (((x % m : Nat) : Int) + (m : Int)) = _
        rw [wrapAdd, Nat.mod_eq_of_lt (by omega)]
    · have h' := of_decide_eq_false h
      have h'' : ¬ x % m < y % m := fun h => h' (Int.ofNat_lt.mpr h)
      refine ev_skip (at0 (x % m) ⟨by omega, by omega, sub_ge (by omega) (by omega)⟩ ⟨le_0, le_0, trivial⟩)
  · rintro z ⟨h1, h2, h3⟩
    refine ev_rs [] rfl trivial (ev_n 6 (z - y % m) rfl (wrapSub _ _ h1 h2) ?_)
    exact ev_ret (ret1 (fz_p (PLe.of_eq (congrArg u64 h3))))

theorem Mul_nil (x y : Nat) : CallSpec Tryz.pr.P Tryz.pr.G 42 [nilP, u64 x, u64 y] (u64 0) := by
  refine callSpec_of Tryz.pr Tryz.func42 rfl rfl rfl fun w0 ok0 hok hG => ?_
  refine ev_rs [] rfl trivial ?_
  refine ev_seq (ev_rs [] rfl trivial (ev_ct rfl ?_))
  exact ev_rs [] rfl trivial (ev_ret (ret1 (fz_p (PLe.refl _))))

theorem Mul_spec (hm : MayM m) (x y : Nat) : CallSpec Tryz.pr.P Tryz.pr.G 42 [fld m b t, u64 x, u64 y] (u64 (x * y % m)) := by
  have hm0 : m ≠ 0 := by have := hm.1; omega
  have hm2 := hm.2
  have hx : x % m < m := Nat.mod_lt _ (by omega)
  have hy : y % m < m := Nat.mod_lt _ (by omega)
  refine callSpec_of Tryz.pr Tryz.func42 rfl rfl rfl fun w0 ok0 hok hG => ?_
  refine ev_rs [] rfl trivial ?_
  refine ev_seq (ev_rs [] rfl trivial (ev_cf rfl (ev_sk ?_)))
  refine ev_ds [.tup 2 (two (u64 (x % m * (y % m) / 18446744073709551616)) (u64 (x % m * (y % m) % 18446744073709551616)))] (by kernel_rfl) rfl rfl
    ⟨.inl (Mul64_spec _ _ (by omega) (by omega)), by simpa using hm0, by decide, by simpa using hm0, by decide, trivial⟩ ?_
  have hlo : x % m * (y % m) % 18446744073709551616 < 18446744073709551616 := Nat.mod_lt _ (by decide)
  refine ev_rs [u64 (x * y % m)] rfl ⟨.inl ?_, by decide, trivial⟩ ?_
  · have h := Rem64_spec (x % m * (y % m) / 18446744073709551616) (x % m * (y % m) % 18446744073709551616) m hm0 hlo (by omega)
    rw [Nat.mul_comm (_ / _), Nat.div_add_mod, ← Nat.mul_mod] at h
    exact h
  exact ev_ret (ret1 (fz_p (PLe.refl _)))

end
end Go.Proofs
