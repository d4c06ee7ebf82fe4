/- Polynomials over a field of words, walked: division, derivatives, values, divisors. -/
import Derived.Test.YtmpfgaebmdbdeaaGreatDoorRef09
set_option linter.unusedVariables false
namespace Go.Proofs
open Go Vinc Vinc.Num

theorem minv_lt {m : Nat} (hm : 0 < m) (x : Nat) : minv m x < m := by
  unfold minv
  split
  · rename_i h; exact (Classical.choose_spec h).1
  · exact hm

theorem asked_fd {p : Nat} (h : Asked p) : FdP p (minv p) := by
  have hm := asked_may h
  refine ⟨asked_prime h, fun x hx => ?_, minv_lt (by have := hm.1; omega)⟩
  have hg : Nat.gcd x p = 1 := by
    rw [Nat.gcd_comm]
    exact (asked_prime h).coprime fun hd => hx (Nat.mod_eq_zero_of_dvd hd)
  rw [(minv_spec hm.1 hg).2, Nat.mod_eq_of_lt hm.1]

theorem UP_spec {p : Nat} : CallSpec Tryz.pr.P Tryz.pr.G 26 [polyF p] (u64 p) := by
  refine callSpec_of Tryz.pr Tryz.func26 rfl rfl rfl fun w0 ok0 hok hG => ?_
  refine ev_rs [] rfl trivial ?_
  refine ev_seq (ev_rs [] rfl trivial (ev_cf rfl (ev_sk ?_)))
  exact ev_rs [u64 p] rfl ⟨.inl M_spec, Nat.zero_lt_one, trivial⟩ (ev_ret (ret1 (fz_p (PLe.refl _))))

theorem DivM_zero {p : Nat} (hm : MayM p) (a b : List Nat) (hl : a.length < 100000) (hl2 : b.length < 100000) (hb0 : (normN p b).length = 0) :
    CallSpec Tryz.pr.P Tryz.pr.G 17 [polyF p, u64s a, u64s b] (.tup 3 (three nilS nilS (i64 10))) := by
  refine callSpec_of Tryz.pr Tryz.func17 rfl rfl rfl fun w0 ok0 hok hG => ?_
  refine ev_rs [] rfl trivial ?_
  refine ev_seq (ev_rs [] rfl trivial (ev_cf rfl (ev_sk ?_)))
  refine ev_rs [u64s (normN p a), u64s (normN p b)] rfl ⟨.inl (Norm_spec hm b (by omega)), .inl (Norm_spec hm a (by omega)), trivial⟩ ?_
  refine ev_seq (ev_rs [] rfl trivial (ev_cond rfl (fun h => ?_) (fun h => ?_)))
  · exact ev_rs [] rfl trivial (ev_ret (ret3 (fz_p (PLe.refl _)) (fz_p (PLe.refl _)) (fz_p (PLe.refl _))))
  · exact absurd (congrArg (fun n : Nat => (n : Int)) hb0) (beq_eq_false_iff_ne.mp h)

theorem DivM_ok {p : Nat} (hm : MayM p) (a b : List Nat) (hl : a.length < 100000) (hl2 : b.length < 100000) (hb0 : 0 < (normN p b).length) :
    CallSpec Tryz.pr.P Tryz.pr.G 17 [polyF p, u64s a, u64s b] (.tup 3 (three (u64s (divN (minv p) p (normN p a) (normN p b)).1) (u64s (divN (minv p) p (normN p a) (normN p b)).2) (i64 0))) := by
  have la := length_normN p a
  have lb := length_normN p b
  refine callSpec_of Tryz.pr Tryz.func17 rfl rfl rfl fun w0 ok0 hok hG => ?_
  refine ev_rs [] rfl trivial ?_
  refine ev_seq (ev_rs [] rfl trivial (ev_cf rfl (ev_sk ?_)))
  refine ev_rs [u64s (normN p a), u64s (normN p b)] rfl ⟨.inl (Norm_spec hm b (by omega)), .inl (Norm_spec hm a (by omega)), trivial⟩ ?_
  refine ev_seq (ev_rs [] rfl trivial (ev_cond rfl (fun h => ?_) (fun h => ev_sk ?_)))
  · exfalso
    have : (normN p b).length = 0 := Int.ofNat_inj.mp (beq_iff_eq.mp h)
    omega
  refine ev_rs [.tup 2 (two (u64s (divN (minv p) p (normN p a) (normN p b)).1) (u64s (divN (minv p) p (normN p a) (normN p b)).2))] rfl ⟨.inl (divide_spec hm _ _ hb0 (by omega) (by omega)), trivial⟩ ?_
  exact ev_rs [] rfl trivial (ev_ret (ret3 (fz_p (PLe.refl _)) (fz_p (PLe.refl _)) (fz_p (PLe.refl _))))

theorem Deg_spec {p : Nat} (hm : MayM p) (a : List Nat) (hl : a.length < 100000) : CallSpec Tryz.pr.P Tryz.pr.G 16 [polyF p, u64s a] (i64 (((normN p a).length : Int) - 1)) := by
  have la := length_normN p a
  refine callSpec_of Tryz.pr Tryz.func16 rfl rfl rfl fun w0 ok0 hok hG => ?_
  refine ev_rs [] rfl trivial ?_
  refine ev_seq (ev_rs [] rfl trivial (ev_cf rfl (ev_sk ?_)))
  exact ev_rs [u64s (normN p a)] rfl ⟨.inl (Norm_spec hm a (by omega)), trivial⟩ (ev_ret (ret1 (fz_p (PLe.of_eq (congrArg (fun z => PV.val (.int .i64 z)) (wrapI _ (by omega) (by omega)))))))

theorem scale_spec {p : Nat} (hm : MayM p) (a : List Nat) (x : Nat) (hl : a.length < 100000) : CallSpec Tryz.pr.P Tryz.pr.G 45 [polyF p, u64s a, u64 x] (u64s (trimN (scaleL p a x))) := by
  obtain ⟨f, hf⟩ : ∃ f : Nat → Nat, f = fun i => a.getD i 0 * x % p := ⟨_, rfl⟩
  have hall : tabK f a.length a.length = scaleL p a x := by rw [tabK_all, hf]; exact tabL_scale p a x
  refine callSpec_of Tryz.pr Tryz.func45 rfl rfl rfl fun w0 ok0 hok hG => ?_
  refine ev_rs [] rfl trivial ?_
  refine ev_rs [] rfl ⟨⟨by omega, by omega, by omega⟩, trivial⟩ ?_
  refine ev_made 7 12 a.length rfl rfl rfl ?_
  refine ev_at (α := Unit) (fun _ => True) (fun _ => [(7, .p (u64s (scaleL p a x)))]) (fun _ => []) ?_ ?_
  · refine ev_rs [] rfl trivial ?_
    refine ev_block (ev_while (α := Nat) (fun i => i ≤ a.length) (fun i => [(0, .p (polyF p)), (2, .p (u64 x)), (7, .own 12 0 a.length 1), (13, .p (u64s a)), (14, .p (i64 a.length)), (15, .p (i64 i))]) (fun i => [(12, ob64 (tabK f a.length i))]) (fun i => a.length - i) 0
      (Nat.zero_le _) (wk_ob rfl (fun hd => ⟨le_refl hd _, le_refl hd _, le_o rfl, le_refl hd _, le_refl hd _, le_refl hd _, trivial⟩)) ?_)
    rintro i h1
    refine ev_rs [] rfl trivial (ev_seq (ev_cond rfl (fun h => ev_sk ?_) (fun h => ev_exit ?_)))
    · have hi : i < a.length := Int.ofNat_lt.mp (of_decide_eq_true h)
      have hck := length_tabK f a.length i
      have hfi : f i = a.getD i 0 * x % p := by rw [hf]
      refine ev_seq (ev_block ?_)
      refine ev_rs [] rfl ⟨hi, ⟨by omega, by omega⟩, trivial⟩ ?_
      refine ev_region [u64 (f i)] rfl ?_ ?_
      · rw [hfi]
        exact ⟨(by omega : i + 1 ≤ (tabK f a.length i).length), ⟨by omega, by omega⟩, .inl (Mul_spec hm _ _), Nat.zero_lt_one, trivial⟩
      refine ev_set 12 i (f i) rfl rfl rfl (by omega) ?_
      exact ev_region [] rfl trivial ⟨i + 1, hi, by dsimp only; omega, wk_ob rfl (fun hd => ⟨le_refl hd _, le_refl hd _, le_o rfl, le_refl hd _, le_refl hd _, le_n hd (congrArg (fun z => PV.val (.int .i64 z)) (wrapI _ (by omega) (by omega))), trivial⟩)⟩
    · have hi : i = a.length := by
        have := of_decide_eq_false h
        omega
      subst hi
      exact at0 () trivial ⟨le_fz' rfl (length_tabK f a.length a.length).symm hall, trivial⟩
  rintro ⟨⟩ -
  exact ev_rs [u64s (trimN (scaleL p a x))] rfl ⟨.inl (trim_spec _ (by rw [length_scaleL]; omega)), trivial⟩ (ev_ret (ret1 (fz_p (PLe.refl _))))

theorem Monic_spec {p : Nat} (hm : MayM p) (a : List Nat) (hl : a.length < 100000) : CallSpec Tryz.pr.P Tryz.pr.G 29 [polyF p, u64s a] (u64s (monicF (minv p) p (normN p a))) := by
  have la := length_normN p a
  have hN := Norm_spec hm a (by omega)
  generalize normN p a = na at *
  refine callSpec_of Tryz.pr Tryz.func29 rfl rfl rfl fun w0 ok0 hok hG => ?_
  refine ev_rs [] rfl trivial ?_
  refine ev_rs [u64s na] rfl ⟨.inl hN, trivial⟩ ?_
  refine ev_seq (ev_rs [] rfl trivial (ev_cond rfl (fun h => ?_) (fun h => ev_sk ?_)))
  · have h0 : na.length = 0 := Int.ofNat_inj.mp (beq_iff_eq.mp h)
    have e : na = [] := List.eq_nil_of_length_eq_zero h0
    rw [e]
    exact ev_rs [] rfl trivial (ev_ret (ret1 (fz_p PLe.nil)))
  have h0 : 0 < na.length := Nat.pos_of_ne_zero fun e => (beq_eq_false_iff_ne.mp h) (congrArg (fun n : Nat => (n : Int)) e)
  have e1 : IntKind.wrap .i64 ((na.length : Int) - 1) = ((na.length - 1 : Nat) : Int) := by rw [wrapI _ (by omega) (by omega)]; omega
  refine ev_ds [.tup 2 (two (u64 (minv p (na.getD (na.length - 1) 0))) (i64 (wrong (na.getD (na.length - 1) 0) p)))] (by kernel_rfl) rfl rfl ?_ ?_
  · rw [e1]
    exact ⟨.inl (Inv_spec hm _), (by omega : na.length - 1 < na.length), ⟨by omega, by omega⟩, Nat.zero_lt_one, trivial⟩
  exact ev_rs [u64s (monicF (minv p) p na)] rfl ⟨.inl (scale_spec hm na _ (by omega)), trivial⟩ (ev_ret (ret1 (fz_p (PLe.refl _))))

theorem Gcd_spec {p : Nat} (hm : MayM p) (hf : FdP p (minv p)) (a b : List Nat) (hl : a.length < 10000) (hl2 : b.length < 10000) : CallSpec Tryz.pr.P Tryz.pr.G 28 [polyF p, u64s a, u64s b] (u64s (gcdN (minv p) p a b)) := by
  have hp0 : 0 < p := hf.pos
  have la := length_normN p a
  have lb := length_normN p b
  have ha := Nz.norm hp0 a
  have hb := Nz.norm hp0 b
  have hNa := Norm_spec hm a (by omega)
  have hNb := Norm_spec hm b (by omega)
  obtain ⟨R, hR⟩ : ∃ R, gcdF (minv p) p ((normN p b).length + 1) (normN p a) (normN p b) = R := ⟨_, rfl⟩
  have hRz : Nz p R := hR ▸ gcdF_nz hf _ _ _ ha hb
  have hRl : R.length < 10000 := by
    have := gcdF_len hf ((normN p b).length + 1) (normN p a) (normN p b) 9999 ha hb (by omega) (by omega)
    rw [hR] at this
    omega
  have hG1 : gcdN (minv p) p a b = monicF (minv p) p (normN p R) := by unfold gcdN; rw [hR, hRz.norm_id hp0]
  rw [hG1]
  generalize normN p a = na at *
  generalize normN p b = nb at *
  refine callSpec_of Tryz.pr Tryz.func28 rfl rfl rfl fun w0 ok0 hok hG => ?_
  refine ev_rs [] rfl trivial ?_
  refine ev_seq (ev_rs [] rfl trivial (ev_cf rfl (ev_sk ?_)))
  refine ev_rs [u64s na, u64s nb] rfl ⟨.inl hNb, .inl hNa, trivial⟩ ?_
  refine ev_at (α := Unit) (fun _ => True) (fun _ => [(0, .p (polyF p)), (1, .p (u64s R))]) (fun _ => []) ?_ ?_
  · refine ev_block (ev_while0 (α := Nat × List Nat × List Nat) (fun s => s.2.2.length ≤ s.1 ∧ Nz p s.2.1 ∧ Nz p s.2.2 ∧ s.2.1.length < 10000 ∧ s.2.2.length < 10000 ∧ gcdF (minv p) p s.1 s.2.1 s.2.2 = R)
      (fun s => [(0, .p (polyF p)), (1, .p (u64s s.2.1)), (2, .p (u64s s.2.2))]) (fun s => s.1) (nb.length + 1, na, nb) ⟨by dsimp only; omega, ha, hb, by dsimp only; omega, by dsimp only; omega, hR⟩ ⟨le_0, le_0, le_0, trivial⟩ ?_)
    rintro ⟨f, x, y⟩ ⟨h1, h2, h3, h4, h5, h6⟩
    dsimp only at h1 h2 h3 h4 h5 h6
    refine ev_seq (ev_rs [] rfl trivial (ev_cond rfl (fun h => ev_sk ?_) (fun h => ev_exit ?_)))
    · have hy : 0 < y.length := Int.ofNat_lt.mp (of_decide_eq_true h)
      obtain ⟨f, rfl⟩ : ∃ g, f = g + 1 := ⟨f - 1, by omega⟩
      have hr := remN_nz hf h2 h3 hy
      have hst : gcdF (minv p) p f y (remN (minv p) p x y) = R := by rw [← h6]; exact (if_neg (by omega)).symm
      refine ev_block ?_
      refine ev_rs [.tup 2 (two (u64s (divN (minv p) p x y).1) (u64s (remN (minv p) p x y)))] rfl ⟨.inl (divide_spec hm x y hy (by omega) (by omega)), trivial⟩ ?_
      exact ev_region [] rfl trivial (round0 (f, y, remN (minv p) p x y) ⟨by dsimp only; omega, h3, hr.1, h5, by dsimp only; omega, hst⟩ (Nat.lt_succ_self f) ⟨le_0, le_0, le_0, trivial⟩)
    · have hy : y.length = 0 := by
        have := of_decide_eq_false h
        dsimp only at this
        omega
      refine at0 () trivial ⟨le_0, le_e (congrArg u64s ?_), trivial⟩
      rw [← h6]
      cases f with
      | zero => rfl
      | succ f => exact (if_pos hy).symm
  rintro ⟨⟩ -
  exact ev_rs [u64s (monicF (minv p) p (normN p R))] rfl ⟨.inl (Monic_spec hm R (by omega)), trivial⟩ (ev_ret (ret1 (fz_p (PLe.refl _))))

end Go.Proofs
