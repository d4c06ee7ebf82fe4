/- The laws of upoly: no field. -/
import Derived.Test.YtmpfgaebmdbdeaaGreatDoorLaw09
import Derived.Test.YtmpfgaebmdbdeaaGreatDoorMulw
set_option linter.unusedVariables false
namespace Go.Proofs
open Go Vinc Vinc.Num

theorem DivM_nil {a b : List Nat} : CallSpec Tryz.pr.P Tryz.pr.G 17 [nilP, u64s a, u64s b] (.tup 3 (three nilS nilS (i64 2))) := by
  refine callSpec_of Tryz.pr Tryz.func17 rfl rfl rfl fun w0 ok0 hok hG => ?_
  refine ev_rs [] rfl trivial ?_
  refine ev_seq (ev_rs [] rfl trivial (ev_ct rfl ?_))
  exact ev_rs [] rfl trivial (ev_ret (ret3 (fz_p (PLe.refl _)) (fz_p (PLe.refl _)) (fz_p (PLe.refl _))))

theorem PowMod_nil {a b : List Nat} {n : Nat} : CallSpec Tryz.pr.P Tryz.pr.G 25 [nilP, u64s a, u64 n, u64s b] (.tup 2 (two nilS (i64 2))) := by
  refine callSpec_of Tryz.pr Tryz.func25 rfl rfl rfl fun w0 ok0 hok hG => ?_
  refine ev_rs [] rfl trivial ?_
  refine ev_seq (ev_rs [] rfl trivial (ev_ct rfl ?_))
  exact ev_rs [] rfl trivial (ev_ret (ret2 (fz_p (PLe.refl _)) (fz_p (PLe.refl _))))

theorem Ext_nil {a b : List Nat} : CallSpec Tryz.pr.P Tryz.pr.G 24 [nilP, u64s a, u64s b] (.tup 3 (three (u64s []) (u64s []) (u64s []))) := by
  refine callSpec_of Tryz.pr Tryz.func24 rfl rfl rfl fun w0 ok0 hok hG => ?_
  refine ev_rs [] rfl trivial ?_
  refine ev_seq (ev_rs [] rfl trivial (ev_ct rfl ?_))
  exact ev_rs [] rfl trivial (ev_ret (ret3 (fz_p PLe.nil) (fz_p PLe.nil) (fz_p PLe.nil)))

theorem UP_nil  : CallSpec Tryz.pr.P Tryz.pr.G 26 [nilP] (u64 0) := by
  refine callSpec_of Tryz.pr Tryz.func26 rfl rfl rfl fun w0 ok0 hok hG => ?_
  refine ev_rs [] rfl trivial ?_
  refine ev_seq (ev_rs [] rfl trivial (ev_ct rfl ?_))
  exact ev_rs [] rfl trivial (ev_ret (ret1 (fz_p (PLe.refl _))))

theorem UNorm_nil {a : List Nat} : CallSpec Tryz.pr.P Tryz.pr.G 19 [nilP, u64s a] (u64s []) := by
  refine callSpec_of Tryz.pr Tryz.func19 rfl rfl rfl fun w0 ok0 hok hG => ?_
  refine ev_rs [] rfl trivial ?_
  refine ev_seq (ev_rs [] rfl trivial (ev_ct rfl ?_))
  exact ev_rs [] rfl trivial (ev_ret (ret1 (fz_p PLe.nil)))

theorem Deg_nil {a : List Nat} : CallSpec Tryz.pr.P Tryz.pr.G 16 [nilP, u64s a] (i64 0) := by
  refine callSpec_of Tryz.pr Tryz.func16 rfl rfl rfl fun w0 ok0 hok hG => ?_
  refine ev_rs [] rfl trivial ?_
  refine ev_seq (ev_rs [] rfl trivial (ev_ct rfl ?_))
  exact ev_rs [] rfl trivial (ev_ret (ret1 (fz_p (PLe.refl _))))

theorem UAdd_nil {a b : List Nat} : CallSpec Tryz.pr.P Tryz.pr.G 18 [nilP, u64s a, u64s b] (u64s []) := by
  refine callSpec_of Tryz.pr Tryz.func18 rfl rfl rfl fun w0 ok0 hok hG => ?_
  refine ev_rs [] rfl trivial ?_
  refine ev_seq (ev_rs [] rfl trivial (ev_ct rfl ?_))
  exact ev_rs [] rfl trivial (ev_ret (ret1 (fz_p PLe.nil)))

theorem USub_nil {a b : List Nat} : CallSpec Tryz.pr.P Tryz.pr.G 27 [nilP, u64s a, u64s b] (u64s []) := by
  refine callSpec_of Tryz.pr Tryz.func27 rfl rfl rfl fun w0 ok0 hok hG => ?_
  refine ev_rs [] rfl trivial ?_
  refine ev_seq (ev_rs [] rfl trivial (ev_ct rfl ?_))
  exact ev_rs [] rfl trivial (ev_ret (ret1 (fz_p PLe.nil)))

theorem Gcd_nil {a b : List Nat} : CallSpec Tryz.pr.P Tryz.pr.G 28 [nilP, u64s a, u64s b] (u64s []) := by
  refine callSpec_of Tryz.pr Tryz.func28 rfl rfl rfl fun w0 ok0 hok hG => ?_
  refine ev_rs [] rfl trivial ?_
  refine ev_seq (ev_rs [] rfl trivial (ev_ct rfl ?_))
  exact ev_rs [] rfl trivial (ev_ret (ret1 (fz_p PLe.nil)))

theorem Eval_nil {a : List Nat} {x : Nat} : CallSpec Tryz.pr.P Tryz.pr.G 21 [nilP, u64s a, u64 x] (u64 0) := by
  refine callSpec_of Tryz.pr Tryz.func21 rfl rfl rfl fun w0 ok0 hok hG => ?_
  refine ev_rs [] rfl trivial ?_
  refine ev_seq (ev_rs [] rfl trivial (ev_ct rfl ?_))
  exact ev_rs [] rfl trivial (ev_ret (ret1 (fz_p (PLe.refl _))))

theorem Derive_nil {a : List Nat} : CallSpec Tryz.pr.P Tryz.pr.G 20 [nilP, u64s a] (u64s []) := by
  refine callSpec_of Tryz.pr Tryz.func20 rfl rfl rfl fun w0 ok0 hok hG => ?_
  refine ev_rs [] rfl trivial ?_
  refine ev_seq (ev_rs [] rfl (by repeat' (first | exact trivial | exact gd_t | exact gd_f | exact (fun _ => rfl) | intro _ | apply And.intro | assumption | exact rfl | exact gd_t (by assumption) | exact gd_f (by assumption) | exact gd_a (by assumption) (by assumption))) (ev_ct rfl ?_))
  exact ev_rs [] rfl trivial (ev_ret (ret1 (fz_p PLe.nil)))

theorem Monic_nil {a : List Nat} : CallSpec Tryz.pr.P Tryz.pr.G 29 [nilP, u64s a] (u64s []) := by
  refine callSpec_of Tryz.pr Tryz.func29 rfl rfl rfl fun w0 ok0 hok hG => ?_
  refine ev_rs [] rfl trivial ?_
  refine ev_rs [u64s []] rfl ⟨.inl UNorm_nil, trivial⟩ ?_
  refine ev_seq (ev_rs [] rfl trivial (ev_ct rfl ?_))
  exact ev_rs [] rfl trivial (ev_ret (ret1 (fz_p PLe.nil)))

theorem bif5 : ∀ a b : Bool, (bif a then true else b) = false → a = false ∧ b = false := by decide

set_option maxRecDepth 100000 in
theorem UpolyNil_spec (a b : List Nat) (n : Nat) : CallSpec Tryz.pr.P Tryz.pr.G 8 [u64s a, u64s b, u64 n] (Vinc.bool true) := by
  refine callSpec_of Tryz.pr Tryz.func8 rfl rfl rfl fun w0 ok0 hok hG => ?_
  refine ev_rs [] rfl trivial ?_
  refine ev_seq (ev_rs [] rfl (by repeat' (first | exact trivial | exact gd_t | exact gd_f | exact (fun _ => rfl) | intro _ | apply And.intro | assumption | exact rfl | exact gd_t (by assumption) | exact gd_f (by assumption) | exact gd_a (by assumption) (by assumption))) (ev_cond rfl (fun h => ?_) (fun h => ev_sk ?_)))
  · exact ev_rs [Vinc.bool true] rfl ⟨.inl awake_spec, trivial⟩ (ev_ret (ret1 (fz_p (PLe.refl _))))
  refine ev_rs [] rfl trivial ?_
  refine ev_rs [.tup 2 (two nilS (i64 2))] rfl ⟨.inl UMul_nil, trivial⟩ ?_
  refine ev_rs [.tup 3 (three nilS nilS (i64 2))] rfl ⟨.inl DivM_nil, trivial⟩ ?_
  refine ev_rs [.tup 2 (two nilS (i64 2))] rfl ⟨.inl PowMod_nil, trivial⟩ ?_
  refine ev_rs [.tup 3 (three (u64s []) (u64s []) (u64s []))] rfl ⟨.inl Ext_nil, trivial⟩ ?_
  exact ev_rs [u64 0, u64s [], i64 0, u64s [], u64s [], u64s [], u64 0, u64s [], u64s [], Vinc.bool true] rfl
    (by repeat' (first | exact trivial | exact gd_t | exact gd_f | exact .inl UP_nil | exact .inl UNorm_nil | exact .inl Deg_nil | exact .inl UAdd_nil | exact .inl USub_nil | exact .inl Gcd_nil | exact .inl Eval_nil | exact .inl Derive_nil | exact .inl Monic_nil | exact .inl awake_spec | exact (fun _ => rfl) | intro _ | apply And.intro | assumption | exact rfl | exact gd_t (by assumption) | exact gd_f (by assumption) | exact gd_a (by assumption) (by assumption))) (ev_ret (ret1 (fz_p (PLe.of_eq rfl))))

end Go.Proofs
