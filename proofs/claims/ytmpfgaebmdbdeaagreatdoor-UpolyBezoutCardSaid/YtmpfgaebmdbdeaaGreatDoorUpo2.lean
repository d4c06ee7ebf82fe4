/- Polynomials over a field of words, walked: derivatives, values, powers, the two polynomials. -/
import Derived.Test.YtmpfgaebmdbdeaaGreatDoorUpo
set_option linter.unusedVariables false
namespace Go.Proofs
open Go Vinc Vinc.Num

theorem Derive_spec {p : Nat} (hm : MayM p) (a : List Nat) (hl : a.length < 100000) : CallSpec Tryz.pr.P Tryz.pr.G 20 [polyF p, u64s a] (u64s (deriveN p a)) := by
  refine callSpec_of Tryz.pr Tryz.func20 rfl rfl rfl fun w0 ok0 hok hG => ?_
  refine ev_rs [] rfl trivial ?_
  refine ev_seq (ev_rs [] rfl (by repeat' (first | exact trivial | exact gd_t | exact gd_f | exact (fun _ => rfl) | intro _ | apply And.intro | assumption | exact rfl | exact gd_t (by assumption) | exact gd_f (by assumption) | exact gd_a (by assumption) (by assumption))) (ev_cond rfl (fun h => ?_) (fun h => ev_sk ?_)))
  · have h : (((a.length : Nat) : Int) == 0) = true := h
    have h0 : a.length = 0 := Int.ofNat_inj.mp (beq_iff_eq.mp h)
    have e : a = [] := List.eq_nil_of_length_eq_zero h0
    rw [e]
    exact ev_rs [] rfl trivial (ev_ret (ret1 (fz_p PLe.nil)))
  have h : (((a.length : Nat) : Int) == 0) = false := h
  have h0 : a.length ≠ 0 := fun e => (beq_eq_false_iff_ne.mp h) (congrArg (fun n : Nat => (n : Int)) e)
  obtain ⟨L, hL⟩ : ∃ L, a.length - 1 = L := ⟨_, rfl⟩
  obtain ⟨f, hf⟩ : ∃ f : Nat → Nat, f = fun i => a.getD (i + 1) 0 * (i + 1) % p := ⟨_, rfl⟩
  have hD : deriveN p a = trimN (tabL f L) := by rw [hf, ← hL]; rfl
  rw [hD]
  have e1 : IntKind.wrap .i64 ((a.length : Int) - 1) = (L : Int) := by rw [wrapI _ (by omega) (by omega)]; omega
  refine ev_rs [] rfl ?_ ?_
  · rw [e1]
    exact ⟨⟨by omega, by omega, by omega⟩, trivial⟩
  refine ev_made 5 17 L rfl rfl (show (IntKind.wrap .i64 ((a.length : Int) - 1)).toNat = _ by rw [e1]; rfl) ?_
  refine ev_at (α := Unit) (fun _ => True) (fun _ => [(5, .p (u64s (tabL f L)))]) (fun _ => []) ?_ ?_
  · refine ev_rs [] rfl trivial ?_
    refine ev_block (ev_while (α := Nat) (fun i => i ≤ L) (fun i => [(0, .p (polyF p)), (1, .p (u64s a)), (5, .own 17 0 L 1), (19, .p (i64 L)), (20, .p (i64 i))]) (fun i => [(17, ob64 (tabK f L i))]) (fun i => L - i) 0
      (Nat.zero_le _) (wk_ob rfl (fun hd => ⟨le_refl hd _, le_refl hd _, le_o rfl, le_refl hd _, le_refl hd _, trivial⟩)) ?_)
    rintro i h1
    refine ev_rs [] rfl trivial (ev_seq (ev_cond rfl (fun h => ev_sk ?_) (fun h => ev_exit ?_)))
    · have hi : i < L := Int.ofNat_lt.mp (of_decide_eq_true h)
      have hck := length_tabK f L i
      have hfi : f i = a.getD (i + 1) 0 * (i + 1) % p := by rw [hf]
      have e2 : IntKind.wrap .i64 ((i : Int) + 1) = ((i + 1 : Nat) : Int) := by rw [wrapI _ (by omega) (by omega)]; rfl
      have e3 : IntKind.wrap .u64 ((i + 1 : Nat) : Int) = ((i + 1 : Nat) : Int) := by rw [wrapN, Nat.mod_eq_of_lt (by omega)]
      refine ev_seq (ev_block ?_)
      refine ev_rs [] rfl trivial ?_
      refine ev_draw [u64 (f i)] (by kernel_rfl) rfl rfl ?_ ?_
      · rw [e2, e3, hfi]
        exact ⟨(by omega : i + 1 ≤ (tabK f L i).length), ⟨by omega, by omega⟩, .inl (Mul_spec hm _ _), (by omega : i + 1 < a.length), ⟨by omega, by omega⟩, Nat.zero_lt_one, trivial⟩
      refine ev_set 17 i (f i) rfl rfl rfl (by omega) ?_
      exact ev_region [] rfl trivial ⟨i + 1, hi, by dsimp only; omega, wk_ob rfl (fun hd => ⟨le_refl hd _, le_refl hd _, le_o rfl, le_refl hd _, le_n hd (congrArg (fun z => PV.val (.int .i64 z)) (wrapI _ (by omega) (by omega))), trivial⟩)⟩
    · have hi : i = L := by
        have := of_decide_eq_false h
        omega
      subst hi
      exact at0 () trivial ⟨le_fz' rfl (length_tabK f i i).symm (tabK_all f i), trivial⟩
  rintro ⟨⟩ -
  exact ev_rs [u64s (trimN (tabL f L))] rfl ⟨.inl (trim_spec _ (by rw [length_tabL]; omega)), trivial⟩ (ev_ret (ret1 (fz_p (PLe.refl _))))

theorem Eval_spec {p : Nat} (hm : MayM p) (a : List Nat) (x : Nat) (hl : a.length < 100000) : CallSpec Tryz.pr.P Tryz.pr.G 21 [polyF p, u64s a, u64 x] (u64 (evalF p x a a.length)) := by
  refine callSpec_of Tryz.pr Tryz.func21 rfl rfl rfl fun w0 ok0 hok hG => ?_
  refine ev_rs [] rfl trivial ?_
  refine ev_seq (ev_rs [] rfl trivial (ev_cf rfl (ev_sk ?_)))
  refine ev_rs [] rfl trivial ?_
  refine ev_at (α := Unit) (fun _ => True) (fun _ => [(7, .p (u64 (evalF p x a a.length)))]) (fun _ => []) ?_ ?_
  · refine ev_rs [] rfl trivial ?_
    refine ev_block (ev_while0 (α := Nat) (fun n => n ≤ a.length) (fun n => [(0, .p (polyF p)), (1, .p (u64s a)), (2, .p (u64 x)), (7, .p (u64 (evalF p x a n))), (8, .p (i64 ((a.length : Int) - 1 - n)))]) (fun n => a.length - n) 0
      (Nat.zero_le _) ⟨le_0, le_0, le_0, le_0, le_e (congrArg (fun z => PV.val (.int .i64 z)) (by rw [wrapI _ (by omega) (by omega)]; omega)), trivial⟩ ?_)
    rintro n h1
    refine ev_seq (ev_rs [] rfl trivial (ev_cond rfl (fun h => ev_sk ?_) (fun h => ev_exit ?_)))
    · have hn : n < a.length := by
        have := of_decide_eq_true h
        omega
      obtain ⟨i, hi⟩ : ∃ i, a.length - 1 - n = i := ⟨_, rfl⟩
      have hst : evalF p x a (n + 1) = (evalF p x a n * x % p + a.getD i 0) % p := by rw [← hi]; rfl
      refine ev_eq 8 (.p (i64 i)) (congrArg (fun z => AV.p (PV.val (.int .i64 z))) (by omega : (a.length : Int) - 1 - n = i)) ?_
      refine ev_seq (ev_block ?_)
      refine ev_draw [u64 (evalF p x a n * x % p), u64 (evalF p x a (n + 1))] (by kernel_rfl) rfl rfl ?_ ?_
      · rw [hst]
        exact ⟨.inl (Add_spec hm _ _), (by omega : i < a.length), ⟨by omega, by omega⟩, .inl (Mul_spec hm _ _), Nat.zero_lt_one, Nat.zero_lt_one, trivial⟩
      exact ev_region [] rfl trivial (round0 (n + 1) hn (by omega) ⟨le_0, le_0, le_0, le_0, le_e (congrArg (fun z => PV.val (.int .i64 z)) (by rw [wrapI _ (by omega) (by omega)]; omega)), trivial⟩)
    · have hn : n = a.length := by
        have := of_decide_eq_false h
        omega
      subst hn
      exact at0 () trivial ⟨le_0, trivial⟩
  rintro ⟨⟩ -
  exact ev_rs [] rfl trivial (ev_ret (ret1 (fz_p (PLe.refl _))))

theorem PowMod_zero {p : Nat} (hm : MayM p) (a : List Nat) (n : Nat) (b : List Nat) (hl : a.length < 100000) (hl2 : b.length < 100000) (hb0 : (normN p b).length = 0) :
    CallSpec Tryz.pr.P Tryz.pr.G 25 [polyF p, u64s a, u64 n, u64s b] (.tup 2 (two nilS (i64 10))) := by
  refine callSpec_of Tryz.pr Tryz.func25 rfl rfl rfl fun w0 ok0 hok hG => ?_
  refine ev_rs [] rfl trivial ?_
  refine ev_seq (ev_rs [] rfl trivial (ev_cf rfl (ev_sk ?_)))
  refine ev_rs [u64s (normN p a), u64s (normN p b)] rfl ⟨.inl (Norm_spec hm b (by omega)), .inl (Norm_spec hm a (by omega)), trivial⟩ ?_
  refine ev_seq (ev_rs [] rfl trivial (ev_cond rfl (fun h => ?_) (fun h => ?_)))
  · exact ev_rs [] rfl trivial (ev_ret (ret2 (fz_p (PLe.refl _)) (fz_p (PLe.refl _))))
  · exact absurd (congrArg (fun n : Nat => (n : Int)) hb0) (beq_eq_false_iff_ne.mp h)

end Go.Proofs
