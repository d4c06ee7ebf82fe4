/- Products of polynomials, walked: the ways 0 (short), 1, 2; other ways; no field. -/
import Derived.Test.YtmpfgaebmdbdeaaGreatDoorUpo
set_option linter.unusedVariables false
namespace Go.Proofs
open Go Vinc Vinc.Num

theorem bif_ff {b c : Bool} (h : b = false) : (bif b then c else false) = false := by rw [h]; rfl
theorem bif_tt {b c : Bool} (h : b = true) : (bif b then true else c) = true := by rw [h]; rfl

theorem UMul_nil {a b : PV} {k : Int} : CallSpec Tryz.pr.P Tryz.pr.G 12 [nilP, a, b, i64 k] (.tup 2 (two nilS (i64 2))) := by
  refine callSpec_of Tryz.pr Tryz.func12 rfl rfl rfl fun w0 ok0 hok hG => ?_
  refine ev_rs [] rfl trivial ?_
  refine ev_seq (ev_rs [] rfl trivial (ev_ct rfl ?_))
  exact ev_rs [] rfl trivial (ev_ret (ret2 (fz_p (PLe.refl _)) (fz_p (PLe.refl _))))

theorem Mul_way0 {p : Nat} (hm : MayM p) (a b : List Nat) (hl : a.length < 200) (hl2 : b.length < 200) : CallSpec Tryz.pr.P Tryz.pr.G 12 [polyF p, u64s a, u64s b, i64 0] (.tup 2 (two (u64s (timesN p (normN p a) (normN p b))) (i64 0))) := by
  have la := length_normN p a
  have lb := length_normN p b
  have hNa := Norm_spec hm a (by omega)
  have hNb := Norm_spec hm b (by omega)
  generalize normN p a = na at *
  generalize normN p b = nb at *
  refine callSpec_of Tryz.pr Tryz.func12 rfl rfl rfl fun w0 ok0 hok hG => ?_
  refine ev_rs [] rfl trivial ?_
  refine ev_seq (ev_rs [] rfl trivial (ev_cf rfl (ev_sk ?_)))
  refine ev_rs [u64s na, u64s nb] rfl ⟨.inl hNb, .inl hNa, trivial⟩ ?_
  refine ev_seq (ev_rs [] rfl trivial (ev_block (ev_seq (ev_block (ev_seq (ev_block (ev_seq (ev_block (ev_seq (ev_block (ev_seq (ev_seq (ev_rs [] rfl trivial (ev_ct rfl (ev_exit ?_)))))))))))))))
  have hc : decide (IntKind.wrap .i64 ((na.length : Int) + (nb.length : Int)) ≥ 400) = false := decide_eq_false (by rw [wrapI _ (by omega) (by omega)]; omega)
  refine ev_rs [] rfl (by repeat' (first | exact trivial | exact gd_t | exact gd_f | exact (fun _ => rfl) | intro _ | apply And.intro | assumption | exact rfl | exact gd_t (by assumption) | exact gd_f (by assumption) | exact gd_a (by assumption) (by assumption))) (ev_cf (congrArg (fun z => AV.p (PV.val (.bool z))) (bif_ff hc)) (ev_skip ?_))
  have := length_oneN p na nb
  refine ev_seq (ev_rs [u64s (oneN p na nb), u64s (timesN p na nb)] rfl ⟨.inl (trim_spec _ (by omega)), .inl (half_spec' hm na nb (by omega) (by omega)), trivial⟩ (ev_ret (ret2 (fz_p (PLe.refl _)) (fz_p (PLe.refl _)))))

theorem Mul_way2 {p : Nat} (hm : MayM p) (a b : List Nat) (hl : a.length < 50000) (hl2 : b.length < 50000) : CallSpec Tryz.pr.P Tryz.pr.G 12 [polyF p, u64s a, u64s b, i64 2] (.tup 2 (two (u64s (timesN p (normN p a) (normN p b))) (i64 0))) := by
  have la := length_normN p a
  have lb := length_normN p b
  have hNa := Norm_spec hm a (by omega)
  have hNb := Norm_spec hm b (by omega)
  generalize normN p a = na at *
  generalize normN p b = nb at *
  refine callSpec_of Tryz.pr Tryz.func12 rfl rfl rfl fun w0 ok0 hok hG => ?_
  refine ev_rs [] rfl trivial ?_
  refine ev_seq (ev_rs [] rfl trivial (ev_cf rfl (ev_sk ?_)))
  refine ev_rs [u64s na, u64s nb] rfl ⟨.inl hNb, .inl hNa, trivial⟩ ?_
  refine ev_seq (ev_rs [] rfl trivial (ev_block (ev_seq (ev_block (ev_seq (ev_block (ev_seq (ev_block (ev_seq (ev_block (ev_seq (ev_seq (ev_rs [] rfl trivial (ev_cf rfl (ev_sk ?_)))))))))))))))
  refine ev_seq (ev_rs [] rfl trivial (ev_ct rfl (ev_exit ?_)))
  have := length_oneN p na nb
  refine ev_seq (ev_rs [u64s (oneN p na nb), u64s (timesN p na nb)] rfl ⟨.inl (trim_spec _ (by omega)), .inl (half_spec' hm na nb (by omega) (by omega)), trivial⟩ (ev_ret (ret2 (fz_p (PLe.refl _)) (fz_p (PLe.refl _)))))

theorem Mul_way1 {p : Nat} (hm : MayM p) (a b : List Nat) (hl : a.length < 50000) (hl2 : b.length < 50000) : CallSpec Tryz.pr.P Tryz.pr.G 12 [polyF p, u64s a, u64s b, i64 1] (.tup 2 (two (u64s (timesN p (normN p a) (normN p b))) (i64 0))) := by
  have la := length_normN p a
  have lb := length_normN p b
  have hNa := Norm_spec hm a (by omega)
  have hNb := Norm_spec hm b (by omega)
  generalize normN p a = na at *
  generalize normN p b = nb at *
  refine callSpec_of Tryz.pr Tryz.func12 rfl rfl rfl fun w0 ok0 hok hG => ?_
  refine ev_rs [] rfl trivial ?_
  refine ev_seq (ev_rs [] rfl trivial (ev_cf rfl (ev_sk ?_)))
  refine ev_rs [u64s na, u64s nb] rfl ⟨.inl hNb, .inl hNa, trivial⟩ ?_
  refine ev_seq (ev_rs [] rfl trivial (ev_block (ev_seq (ev_block (ev_seq (ev_block (ev_seq (ev_block (ev_seq (ev_block (ev_seq (ev_seq (ev_rs [] rfl trivial (ev_cf rfl (ev_sk ?_)))))))))))))))
  refine ev_seq (ev_rs [] rfl trivial (ev_cf rfl (ev_sk ?_)))
  refine ev_seq (ev_rs [] rfl trivial (ev_ct rfl (ev_exit ?_)))
  have := length_oneN p na nb
  refine ev_seq (ev_rs [u64s (oneN p na nb), u64s (timesN p na nb)] rfl ⟨.inl (trim_spec _ (by omega)), .inl (one_spec hm na nb (by omega) (by omega)), trivial⟩ (ev_ret (ret2 (fz_p (PLe.refl _)) (fz_p (PLe.refl _)))))

end Go.Proofs
