/- The rows of recur, walked. -/
import Derived.Test.YtmpfgaebmdbdeaaGreatDoorPrime
import Derived.Test.YtmpfgaebmdbdeaaGreatDoorVincRec
set_option linter.unusedVariables false
namespace Go.Proofs
open Go Vinc Vinc.Num

section
variable {m b t : Nat}

theorem Sb_spec (hm : MayM m) (x y : Nat) : CallSpec Tryz.pr.P Tryz.pr.G 47 [fld m b t, u64 x, u64 y] (u64 (sb x y m)) := Sub_spec hm x y

theorem Same_spec (xs ys : List Nat) (hl : xs.length < 1000000) (hl2 : ys.length < 1000000) : CallSpec Tryz.pr.P Tryz.pr.G 13 [u64s xs, u64s ys] (Vinc.bool (decide (xs = ys))) := by
  refine callSpec_of Tryz.pr Tryz.func13 rfl rfl rfl fun w0 ok0 hok hG => ?_
  refine ev_rs [] rfl trivial ?_
  refine ev_seq (ev_rs [] rfl trivial (ev_cond rfl (fun h => ?_) (fun h => ev_sk ?_)))
  · have hne : xs.length ≠ ys.length := fun e => (bne_iff_ne.mp h) (Int.ofNat_inj.mpr e)
    refine ev_rs [] rfl trivial (ev_ret (ret1 (fz_p (PLe.of_eq (congrArg Vinc.bool ?_)))))
    exact (decide_eq_false fun e => hne (congrArg _ e)).symm
  have hlen : xs.length = ys.length := Int.ofNat_inj.mp (bne_eq_false_iff_eq.mp h)
  refine ev_at (α := Unit) (fun _ => xs = ys) (fun _ => []) (fun _ => []) ?_ ?_
  · refine ev_rs [] rfl trivial ?_
    refine ev_block (ev_while0 (α := Nat) (fun i => i ≤ xs.length ∧ ∀ j, j < i → xs.getD j 0 = ys.getD j 0) (fun i => [(0, .p (u64s xs)), (1, .p (u64s ys)), (5, .p (i64 i))]) (fun i => xs.length - i) 0
      ⟨Nat.zero_le _, fun j h1 => by omega⟩ ⟨le_0, le_0, le_0, trivial⟩ ?_)
    rintro i ⟨h1, h3⟩
    refine ev_seq (ev_rs [] rfl trivial (ev_cond rfl (fun h => ev_sk ?_) (fun h => ev_exit ?_)))
    · have hi : i < xs.length := Int.ofNat_lt.mp (of_decide_eq_true h)
      refine ev_seq (ev_block ?_)
      refine ev_ds [] (by kernel_rfl) rfl rfl ⟨(hlen ▸ hi : i < ys.length), ⟨by omega, by omega⟩, hi, ⟨by omega, by omega⟩, trivial⟩ (ev_cond rfl (fun h => ?_) (fun h => ?_))
      · have hne : xs.getD i 0 ≠ ys.getD i 0 := fun e => (bne_iff_ne.mp h) (Int.ofNat_inj.mpr e)
        refine ev_rs [] rfl trivial (ev_ret (ret1 (fz_p (PLe.of_eq (congrArg Vinc.bool ?_)))))
        exact (decide_eq_false fun e => hne (by rw [e])).symm
      · have heq : xs.getD i 0 = ys.getD i 0 := Int.ofNat_inj.mp (bne_eq_false_iff_eq.mp h)
        refine ev_skip ?_
        refine ev_region [] rfl trivial (round0 (i + 1) ⟨hi, fun j h4 => ?_⟩ (by omega) ⟨le_0, le_0, le_e (congrArg (fun z => PV.val (.int .i64 z)) (wrapI _ (by omega) (by omega))), trivial⟩)
        rcases Nat.lt_or_ge j i with hj | hj
        · exact h3 j hj
        · rw [show j = i by omega]; exact heq
    · have hi : i = xs.length := by
        have := of_decide_eq_false h
        omega
      subst hi
      exact at0 () (list_eq hlen h3) trivial
  rintro ⟨⟩ h
  refine ev_rs [] rfl trivial (ev_ret (ret1 (fz_p (PLe.of_eq (congrArg Vinc.bool ?_)))))
  exact (decide_eq_true h).symm

end
end Go.Proofs
