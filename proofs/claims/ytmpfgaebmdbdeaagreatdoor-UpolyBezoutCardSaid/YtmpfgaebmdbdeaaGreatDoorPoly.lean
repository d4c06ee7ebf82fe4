/- Polynomials over a field of words, walked: what powers modulo a polynomial need. -/
import Derived.Test.YtmpfgaebmdbdeaaGreatDoorFind
set_option linter.unusedVariables false
namespace Go.Proofs
open Go Vinc Vinc.Num

/-- A field of polynomials. -/
noncomputable abbrev polyF (p : Nat) : PV := .ptr 1 (fun _ => newF p) 0

theorem UNew_no {p : Nat} (hp : p < 18446744073709551616) (h : ¬ (p < 9223372036854775808 ∧ isB p = true)) : CallSpec Tryz.pr.P Tryz.pr.G 30 [u64 p] (.tup 2 (two nilP (i64 14))) := by
  refine callSpec_of Tryz.pr Tryz.func30 rfl rfl rfl fun w0 ok0 hok hG => ?_
  refine ev_rs [] rfl trivial ?_
  refine ev_seq (ev_rs [Vinc.bool (isB p)] rfl (by repeat' (first | exact trivial | exact gd_t | exact gd_f | exact .inl (Is_spec p hp) | exact (fun _ => rfl) | intro _ | apply And.intro | assumption | exact rfl | exact gd_t (by assumption) | exact gd_f (by assumption) | exact gd_a (by assumption) (by assumption))) (ev_cond rfl (fun _ => ?_) (fun h2 => ?_)))
  · exact ev_rs [] rfl trivial (ev_ret (ret2 (fz_p (PLe.refl _)) (fz_p (PLe.refl _))))
  · exfalso
    apply h
    by_cases hq : p < 9223372036854775808
    · refine ⟨hq, ?_⟩
      rw [decide_eq_false (by omega)] at h2
      cases hb : isB p
      · rw [hb] at h2; cases h2
      · rfl
    · rw [decide_eq_true (by omega)] at h2
      cases h2

theorem UNew_ok {p : Nat} (hm : MayM p) (hb : isB p = true) : CallSpec Tryz.pr.P Tryz.pr.G 30 [u64 p] (.tup 2 (two (polyF p) (i64 0))) := by
  have hm2 := hm.2
  refine callSpec_of Tryz.pr Tryz.func30 rfl rfl rfl fun w0 ok0 hok hG => ?_
  refine ev_rs [] rfl trivial ?_
  refine ev_seq (ev_rs [Vinc.bool (isB p)] rfl (by repeat' (first | exact trivial | exact gd_t | exact gd_f | exact .inl (Is_spec p (by omega)) | exact (fun _ => rfl) | intro _ | apply And.intro | assumption | exact rfl | exact gd_t (by assumption) | exact gd_f (by assumption) | exact gd_a (by assumption) (by assumption))) (ev_cond rfl (fun h => ?_) (fun _ => ev_sk ?_)))
  · exfalso
    rw [hb, decide_eq_false (by omega)] at h
    cases h
  refine ev_rs [.tup 2 (two (newF p) (i64 0))] rfl ⟨.inl (New_spec hm), trivial⟩ ?_
  refine ev_seq (ev_rs [] rfl trivial (ev_cf rfl (ev_sk ?_)))
  refine ev_rs [] rfl trivial (ev_ret (ret2 (fz_oat rfl (Nat.le_refl 1) (fun j hj => ?_)) (fz_p (PLe.refl _))))
  match j, hj with
  | 0, _ => exact fz_p (PLe.refl _)

theorem trim_spec (a : List Nat) (hl : a.length < 1099511627776) : CallSpec Tryz.pr.P Tryz.pr.G 33 [u64s a] (u64s (trimN a)) := by
  refine callSpec_of Tryz.pr Tryz.func33 rfl rfl rfl fun w0 ok0 hok hG => ?_
  refine ev_rs [] rfl trivial ?_
  refine ev_rs [] rfl trivial ?_
  refine ev_at (α := Unit) (fun _ => True) (fun _ => [(0, .p (u64s a)), (3, .p (i64 (trimL a a.length)))]) (fun _ => []) ?_ ?_
  · refine ev_block (ev_while0 (α := Nat) (fun n => n ≤ a.length ∧ trimL a n = trimL a a.length) (fun n => [(0, .p (u64s a)), (3, .p (i64 n))]) (fun n => n) a.length ⟨Nat.le_refl _, rfl⟩ ⟨le_0, le_0, trivial⟩ ?_)
    rintro n ⟨h1, h2⟩
    cases n with
    | zero =>
      exact ev_seq (ev_rs [] rfl (by repeat' (first | exact trivial | exact gd_t | exact gd_f | exact fun h => absurd h (by decide) | exact (fun _ => rfl) | intro _ | apply And.intro | assumption | exact rfl | exact gd_t (by assumption) | exact gd_f (by assumption) | exact gd_a (by assumption) (by assumption))) (ev_cf rfl (ev_exit (at0 () trivial ⟨le_0, le_e (congrArg (fun z : Nat => i64 z) h2), trivial⟩))))
    | succ n =>
      have e1 : IntKind.wrap .i64 (((n + 1 : Nat) : Int) - 1) = (n : Int) := by rw [wrapI _ (by omega) (by omega)]; omega
      have hpos : decide (((n + 1 : Nat) : Int) > 0) = true := decide_eq_true (by omega)
      refine ev_seq (ev_rs [] rfl ?_ (ev_cond rfl (fun h => ev_sk ?_) (fun h => ev_exit ?_)))
      · rw [e1]
        exact (by repeat' (first | exact trivial | exact gd_t | exact gd_f | exact h1 | exact Int.natCast_nonneg _ | exact Int.ofNat_lt.mpr h1 | exact (fun _ => rfl) | intro _ | apply And.intro | assumption | exact rfl | exact gd_t (by assumption) | exact gd_f (by assumption) | exact gd_a (by assumption) (by assumption)))
      · rw [hpos, e1] at h
        have h0 : a.getD n 0 = 0 := Int.ofNat_inj.mp (beq_iff_eq.mp h)
        refine ev_block (ev_region [] rfl trivial (round0 n ⟨by omega, ?_⟩ (Nat.lt_succ_self n) ⟨le_0, le_e (congrArg (fun z => PV.val (.int .i64 z)) e1), trivial⟩))
        rw [← h2]
        show _ = if a.getD n 0 = 0 then trimL a n else n + 1
        rw [if_pos h0]
      · rw [hpos, e1] at h
        have h0 : ¬ a.getD n 0 = 0 := fun e => (beq_eq_false_iff_ne.mp h) (Int.ofNat_inj.mpr e)
        refine at0 () trivial ⟨le_0, le_e (congrArg (fun z : Nat => i64 z) ?_), trivial⟩
        rw [← h2]
        show _ = if a.getD n 0 = 0 then trimL a n else n + 1
        rw [if_neg h0]
  rintro ⟨⟩ -
  have ht := trimL_le a a.length
  exact ev_rs [] rfl ⟨⟨by omega, by omega⟩, trivial⟩ (ev_ret (ret1 (fz_p (PLe.take ht))))

theorem Norm_spec {p : Nat} (hm : MayM p) (a : List Nat) (hl : a.length < 1000000) : CallSpec Tryz.pr.P Tryz.pr.G 19 [polyF p, u64s a] (u64s (normN p a)) := by
  refine callSpec_of Tryz.pr Tryz.func19 rfl rfl rfl fun w0 ok0 hok hG => ?_
  refine ev_rs [] rfl trivial ?_
  refine ev_seq (ev_rs [] rfl trivial (ev_cf rfl (ev_sk ?_)))
  refine ev_rs [] rfl ⟨⟨by omega, by omega, by omega⟩, trivial⟩ ?_
  refine ev_made 5 12 a.length rfl rfl rfl ?_
  refine ev_at (α := Unit) (fun _ => True) (fun _ => [(5, .p (u64s (a.map (· % p))))]) (fun _ => []) ?_ ?_
  · refine ev_rs [] rfl trivial ?_
    refine ev_block (ev_while (α := Nat) (fun i => i ≤ a.length) (fun i => [(0, .p (polyF p)), (1, .p (u64s a)), (5, .own 12 0 a.length 1), (13, .p (u64s a)), (14, .p (i64 a.length)), (15, .p (i64 i))]) (fun i => [(12, ob64 (mapK p a i))]) (fun i => a.length - i) 0
      (Nat.zero_le _) (wk_ob rfl (fun hd => ⟨le_refl hd _, le_refl hd _, le_o rfl, le_refl hd _, le_refl hd _, le_refl hd _, trivial⟩)) ?_)
    rintro i h1
    refine ev_rs [] rfl trivial (ev_seq (ev_cond rfl (fun h => ev_sk ?_) (fun h => ev_exit ?_)))
    · have hi : i < a.length := Int.ofNat_lt.mp (of_decide_eq_true h)
      have hck := length_mapK p a i
      refine ev_seq (ev_block ?_)
      refine ev_rs [] rfl ⟨hi, ⟨by omega, by omega⟩, trivial⟩ ?_
      refine ev_region [u64 (a.getD i 0 % p)] rfl ?_ ?_
      · exact ⟨(by omega : i + 1 ≤ (mapK p a i).length), ⟨by omega, by omega⟩, .inl (Of_spec hm _), Nat.zero_lt_one, trivial⟩
      refine ev_set 12 i (a.getD i 0 % p) rfl rfl rfl (by omega) ?_
      exact ev_region [] rfl trivial ⟨i + 1, hi, by dsimp only; omega, wk_ob rfl (fun hd => ⟨le_refl hd _, le_refl hd _, le_o rfl, le_refl hd _, le_refl hd _, le_n hd (congrArg (fun z => PV.val (.int .i64 z)) (wrapI _ (by omega) (by omega))), trivial⟩)⟩
    · have hi : i = a.length := by
        have := of_decide_eq_false h
        omega
      subst hi
      exact at0 () trivial ⟨le_fz' rfl (length_mapK p a a.length).symm (mapK_all p a), trivial⟩
  rintro ⟨⟩ -
  exact ev_rs [u64s (normN p a)] rfl ⟨.inl (trim_spec _ (by rw [List.length_map]; omega)), trivial⟩ (ev_ret (ret1 (fz_p (PLe.refl _))))

theorem one_spec {p : Nat} (hm : MayM p) (a b : List Nat) (hl : a.length < 1000000) (hl2 : b.length < 1000000) : CallSpec Tryz.pr.P Tryz.pr.G 35 [polyF p, u64s a, u64s b] (u64s (oneN p a b)) := by
  refine callSpec_of Tryz.pr Tryz.func35 rfl rfl rfl fun w0 ok0 hok hG => ?_
  refine ev_rs [] rfl trivial ?_
  refine ev_seq (ev_rs [] rfl (by repeat' (first | exact trivial | exact gd_t | exact gd_f | exact (fun _ => rfl) | intro _ | apply And.intro | assumption | exact rfl | exact gd_t (by assumption) | exact gd_f (by assumption) | exact gd_a (by assumption) (by assumption))) (ev_cond rfl (fun h => ?_) (fun h => ev_sk ?_)))
  · have h0 : a.length = 0 ∨ b.length = 0 := by
      by_cases ha : a.length = 0
      · exact .inl ha
      · right
        have e : (((a.length : Nat) : Int) == 0) = false := beq_eq_false_iff_ne.mpr (by omega)
        rw [e] at h
        exact Int.ofNat_inj.mp (beq_iff_eq.mp h)
    have e : oneN p a b = [] := if_pos h0
    rw [e]
    exact ev_rs [] rfl trivial (ev_ret (ret1 (fz_p PLe.nil)))
  have h0 : ¬ (a.length = 0 ∨ b.length = 0) := by
    rintro (e | e)
    · rw [e] at h; cases h
    · rw [e] at h
      cases hd : (((a.length : Nat) : Int) == 0) <;> rw [hd] at h <;> cases h
  have e0 : oneN p a b = oneO p a b a.length := if_neg h0
  rw [e0]
  have e1 : IntKind.wrap .i64 (IntKind.wrap .i64 ((a.length : Int) + (b.length : Int)) - 1) = ((a.length + b.length - 1 : Nat) : Int) := by
    rw [wrapI ((a.length : Int) + (b.length : Int)) (by omega) (by omega), wrapI _ (by omega) (by omega)]; omega
  obtain ⟨L, hL⟩ : ∃ L, a.length + b.length - 1 = L := ⟨_, rfl⟩
  refine ev_rs [] rfl ?_ ?_
  · rw [e1]
    exact ⟨⟨by omega, by omega, by omega⟩, trivial⟩
  refine ev_made 7 26 L rfl rfl (show (IntKind.wrap .i64 (IntKind.wrap .i64 ((a.length : Int) + (b.length : Int)) - 1)).toNat = _ by rw [e1]; exact hL) ?_
  refine ev_at (α := Unit) (fun _ => True) (fun _ => [(7, .own 26 0 L 1)]) (fun _ => [(26, ob64 (oneO p a b a.length))]) ?_ ?_
  · refine ev_rs [] rfl trivial ?_
    refine ev_block (ev_while (α := Nat) (fun i => i ≤ a.length) (fun i => [(0, .p (polyF p)), (2, .p (u64s b)), (7, .own 26 0 L 1), (27, .p (u64s a)), (28, .p (i64 a.length)), (29, .p (i64 i))]) (fun i => [(26, ob64 (oneO p a b i))]) (fun i => a.length - i) 0
      (Nat.zero_le _) (wk_ob (congrArg (fun l => some (ob64 (List.replicate l 0))) hL.symm) (fun hd => ⟨le_refl hd _, le_refl hd _, le_o rfl, le_refl hd _, le_refl hd _, le_refl hd _, trivial⟩)) ?_)
    rintro i h1
    refine ev_rs [] rfl trivial (ev_seq (ev_cond rfl (fun h => ev_sk ?_) (fun h => ev_exit ?_)))
    · have hi : i < a.length := Int.ofNat_lt.mp (of_decide_eq_true h)
      refine ev_seq (ev_block ?_)
      refine ev_rs [] rfl ⟨hi, ⟨by omega, by omega⟩, trivial⟩ ?_
      refine ev_rs [] rfl trivial ?_
      refine ev_block (ev_while (α := Nat) (fun k => k ≤ b.length) (fun k => [(0, .p (polyF p)), (2, .p (u64s b)), (7, .own 26 0 L 1), (8, .p (i64 i)), (9, .p (u64 (a.getD i 0))), (27, .p (u64s a)), (28, .p (i64 a.length)), (29, .p (i64 i)), (34, .p (u64s b)), (35, .p (i64 b.length)), (36, .p (i64 k))])
        (fun k => [(26, ob64 (oneI p (a.getD i 0) b i (oneO p a b i) k))]) (fun k => b.length - k) 0
        (Nat.zero_le _) (wk_ob rfl (fun hd => ⟨le_refl hd _, le_refl hd _, le_o rfl, le_refl hd _, le_refl hd _, le_refl hd _, le_refl hd _, le_refl hd _, le_refl hd _, le_refl hd _, le_refl hd _, trivial⟩)) ?_)
      rintro k h2
      refine ev_rs [] rfl trivial (ev_seq (ev_cond rfl (fun h => ev_sk ?_) (fun h => ev_exit ?_)))
      · have hk : k < b.length := Int.ofNat_lt.mp (of_decide_eq_true h)
        refine ev_seq (ev_block ?_)
        refine ev_rs [] rfl ⟨hk, ⟨by omega, by omega⟩, trivial⟩ ?_
        have e2 : IntKind.wrap .i64 ((i : Int) + (k : Int)) = ((i + k : Nat) : Int) := by rw [wrapI _ (by omega) (by omega)]; rfl
        have hck : (oneI p (a.getD i 0) b i (oneO p a b i) k).length = L := by rw [length_oneI, length_oneO, hL]
        obtain ⟨o, ho⟩ : ∃ o, oneI p (a.getD i 0) b i (oneO p a b i) k = o := ⟨_, rfl⟩
        have hst : oneI p (a.getD i 0) b i (oneO p a b i) (k + 1) = o.set (i + k) ((o.getD (i + k) 0 + a.getD i 0 * b.getD k 0 % p) % p) := by rw [← ho]; rfl
        rw [ho] at hck
        refine ev_ob 26 (ob64 o) (congrArg (fun l => some (ob64 l)) ho) ?_
        refine ev_draw [u64 (a.getD i 0 * b.getD k 0 % p), u64 ((o.getD (i + k) 0 + a.getD i 0 * b.getD k 0 % p) % p)] (by kernel_rfl) rfl rfl ?_ ?_
        · rw [e2]
          exact ⟨(by omega : i + k + 1 ≤ o.length), ⟨by omega, by omega⟩, .inl (Add_spec hm _ _), .inl (Mul_spec hm _ _), Nat.zero_lt_one, (by omega : i + k < o.length), ⟨by omega, by omega⟩, Nat.zero_lt_one, trivial⟩
        refine ev_set 26 (i + k) ((o.getD (i + k) 0 + a.getD i 0 * b.getD k 0 % p) % p) rfl (by show (IntKind.wrap .i64 ((i : Int) + (k : Int))).toNat = _; rw [e2]; rfl) rfl (by omega) ?_
        exact ev_region [] rfl trivial ⟨k + 1, hk, by dsimp only; omega, wk_ob (congrArg (fun l => some (ob64 l)) hst.symm) (fun hd => ⟨le_refl hd _, le_refl hd _, le_o rfl, le_refl hd _, le_refl hd _, le_refl hd _, le_refl hd _, le_refl hd _, le_refl hd _, le_refl hd _, le_n hd (congrArg (fun z => PV.val (.int .i64 z)) (wrapI _ (by omega) (by omega))), trivial⟩)⟩
      · have hk : k = b.length := by
          have := of_decide_eq_false h
          omega
        subst hk
        exact ev_region [] rfl trivial ⟨i + 1, hi, by dsimp only; omega, wk_ob rfl (fun hd => ⟨le_refl hd _, le_refl hd _, le_o rfl, le_refl hd _, le_refl hd _, le_n hd (congrArg (fun z => PV.val (.int .i64 z)) (wrapI _ (by omega) (by omega))), trivial⟩)⟩
    · have hi : i = a.length := by
        have := of_decide_eq_false h
        omega
      subst hi
      exact at_ob () trivial rfl (fun hd => ⟨le_o rfl, trivial⟩)
  rintro ⟨⟩ -
  exact ev_rs [] rfl trivial (ev_ret (ret1 (fz_ob' rfl (by rw [length_oneO, hL]) rfl)))

theorem half_spec {p : Nat} (hm : MayM p) (a b : List Nat) (hl : a.length ≤ 16) (hl2 : b.length ≤ 16) : CallSpec Tryz.pr.P Tryz.pr.G 34 [polyF p, u64s a, u64s b] (u64s (oneN p a b)) := by
  refine callSpec_of Tryz.pr Tryz.func34 rfl rfl rfl fun w0 ok0 hok hG => ?_
  refine ev_rs [] rfl trivial ?_
  refine ev_rs [] rfl trivial ?_
  have hle : (if (b.length : Int) > (a.length : Int) then (b.length : Int) else (a.length : Int)) ≤ 16 := by split <;> omega
  refine ev_seq (ev_rs [] rfl (by repeat' (first | exact trivial | exact gd_t | exact gd_f | exact (fun _ => rfl) | intro _ | apply And.intro | assumption | exact rfl | exact gd_t (by assumption) | exact gd_f (by assumption) | exact gd_a (by assumption) (by assumption))) (ev_cond rfl (fun h => ?_) (fun h => ?_)))
  · exact ev_rs [u64s (oneN p a b)] rfl ⟨.inl (one_spec hm a b (by omega) (by omega)), trivial⟩ (ev_ret (ret1 (fz_p (PLe.refl _))))
  · exfalso
    have e : decide ((if (b.length : Int) > (a.length : Int) then (b.length : Int) else (a.length : Int)) ≤ 16) = true := decide_eq_true hle
    have h : (bif (bif decide ((if (b.length : Int) > (a.length : Int) then (b.length : Int) else (a.length : Int)) ≤ 16) then true else _) then true else _) = false := h
    rw [e] at h
    cases h

theorem length_oneN (p : Nat) (a b : List Nat) : (oneN p a b).length ≤ a.length + b.length := by
  unfold oneN
  split
  · simp
  · rw [length_oneO]; omega

theorem times_spec2 {p : Nat} (hm : MayM p) (a b : List Nat) (hl : a.length ≤ 16) (hl2 : b.length ≤ 16) : CallSpec Tryz.pr.P Tryz.pr.G 44 [polyF p, u64s a, u64s b] (u64s (timesN p a b)) := by
  refine callSpec_of Tryz.pr Tryz.func44 rfl rfl rfl fun w0 ok0 hok hG => ?_
  refine ev_rs [] rfl trivial ?_
  have := length_oneN p a b
  exact ev_rs [u64s (oneN p a b), u64s (timesN p a b)] rfl ⟨.inl (trim_spec _ (by omega)), .inl (half_spec hm a b hl hl2), trivial⟩ (ev_ret (ret1 (fz_p (PLe.refl _))))

theorem divide_short {p : Nat} (a b : List Nat) (h : a.length < b.length) (hl2 : b.length < 1000000) :
    CallSpec Tryz.pr.P Tryz.pr.G 38 [polyF p, u64s a, u64s b] (.tup 2 (two (u64s []) (u64s a))) := by
  refine callSpec_of Tryz.pr Tryz.func38 rfl rfl rfl fun w0 ok0 hok hG => ?_
  refine ev_rs [] rfl trivial ?_
  refine ev_rs [] rfl ⟨⟨by omega, trivial⟩, trivial⟩ ?_
  refine ev_seq (ev_rs [] rfl trivial (ev_cond rfl (fun h2 => ?_) (fun h2 => ?_)))
  · exact ev_rs [] rfl trivial (ev_ret (ret2 (fz_p PLe.nil) (fz_ob rfl)))
  · exact absurd h (fun h => of_decide_eq_false h2 (Int.ofNat_lt.mpr h))

theorem divide_long {p : Nat} (hm : MayM p) (a b : List Nat) (hb0 : 0 < b.length) (h : b.length ≤ a.length) (hl : a.length < 1000000) :
    CallSpec Tryz.pr.P Tryz.pr.G 38 [polyF p, u64s a, u64s b] (.tup 2 (two (u64s (divN (minv p) p a b).1) (u64s (divN (minv p) p a b).2))) := by
  have e0 : divN (minv p) p a b = (trimN (divO p (minv p (b.getD (b.length - 1) 0)) b (a.length - (b.length - 1)) (List.replicate (a.length - (b.length - 1)) 0, a)).1,
      trimN (divO p (minv p (b.getD (b.length - 1) 0)) b (a.length - (b.length - 1)) (List.replicate (a.length - (b.length - 1)) 0, a)).2) := if_neg (by omega)
  rw [e0]
  obtain ⟨top, htop⟩ : ∃ top, b.length - 1 = top := ⟨_, rfl⟩
  obtain ⟨qn, hqn⟩ : ∃ qn, a.length - top = qn := ⟨_, rfl⟩
  obtain ⟨iv, hiv⟩ : ∃ iv, minv p (b.getD top 0) = iv := ⟨_, rfl⟩
  rw [htop, hqn, hiv]
  have e1 : IntKind.wrap .i64 ((b.length : Int) - 1) = (top : Int) := by rw [wrapI _ (by omega) (by omega)]; omega
  have e2 : IntKind.wrap .i64 ((a.length : Int) - (top : Int)) = (qn : Int) := by rw [wrapI _ (by omega) (by omega)]; omega
  have e3 : IntKind.wrap .i64 ((qn : Int) - 1) = (qn : Int) - 1 := wrapI _ (by omega) (by omega)
  refine callSpec_of Tryz.pr Tryz.func38 rfl rfl rfl fun w0 ok0 hok hG => ?_
  refine ev_rs [] rfl trivial ?_
  refine ev_rs [] rfl ⟨⟨by omega, trivial⟩, trivial⟩ ?_
  refine ev_seq (ev_rs [] rfl trivial (ev_cond rfl (fun h2 => ?_) (fun h2 => ev_sk ?_)))
  · exact absurd (Int.ofNat_lt.mp (of_decide_eq_true h2)) (by omega)
  refine ev_rs [] rfl trivial (ev_eq 9 (.p (i64 top)) (congrArg (fun z => AV.p (PV.val (.int .i64 z))) e1) ?_)
  refine ev_ds [.tup 2 (two (u64 iv) (i64 (wrong (b.getD top 0) p)))] (by kernel_rfl) rfl rfl ?_ ?_
  · rw [← hiv]
    exact ⟨.inl (Inv_spec hm _), (by omega : top < b.length), ⟨by omega, by omega⟩, Nat.zero_lt_one, trivial⟩
  refine ev_rs [] rfl ?_ ?_
  · rw [e2]
    exact ⟨⟨by omega, by omega, by omega⟩, trivial⟩
  refine ev_made 12 43 qn rfl rfl (show (IntKind.wrap .i64 ((a.length : Int) - (top : Int))).toNat = _ by rw [e2]; rfl) ?_
  refine ev_ob 17 (ob64 a) rfl ?_
  refine ev_at (α := Unit) (fun _ => True) (fun _ => [(8, .p (u64s (divO p iv b qn (List.replicate qn 0, a)).2)), (12, .p (u64s (divO p iv b qn (List.replicate qn 0, a)).1))]) (fun _ => []) ?_ ?_
  · refine ev_rs [] rfl trivial ?_
    refine ev_block (ev_while (α := Nat × List Nat × List Nat) (fun s => s.1 ≤ qn ∧ s.2.1.length = qn ∧ s.2.2.length = a.length ∧ divO p iv b s.1 (s.2.1, s.2.2) = divO p iv b qn (List.replicate qn 0, a))
      (fun s => [(0, .p (polyF p)), (2, .p (u64s b)), (8, .own 17 0 a.length 1), (9, .p (i64 top)), (10, .p (u64 iv)), (12, .own 43 0 qn 1), (13, .p (i64 ((s.1 : Int) - 1)))]) (fun s => [(17, ob64 s.2.2), (43, ob64 s.2.1)]) (fun s => s.1) (qn, List.replicate qn 0, a)
      ⟨Nat.le_refl _, List.length_replicate, rfl, rfl⟩ (wk_ob2 rfl rfl rfl rfl (fun hd => ⟨le_refl hd _, le_refl hd _, le_o rfl, le_refl hd _, le_refl hd _, le_o rfl, le_n hd (congrArg (fun z => PV.val (.int .i64 z)) e3), trivial⟩)) ?_)
    rintro ⟨n, q, l⟩ ⟨h1, h2, h3, h4⟩
    dsimp only at h1 h2 h3 h4
    refine ev_seq (ev_rs [] rfl trivial (ev_cond rfl (fun h => ev_sk ?_) (fun h => ev_exit ?_)))
    · have hn : 0 < n := by
        have := of_decide_eq_true h
        dsimp only at this
        omega
      obtain ⟨i, rfl⟩ : ∃ i, n = i + 1 := ⟨n - 1, by omega⟩
      obtain ⟨qi, hqi⟩ : ∃ qi, l.getD (i + top) 0 * iv % p = qi := ⟨_, rfl⟩
      have hst : divO p iv b i (q.set i qi, divI p qi b i l b.length) = divO p iv b qn (List.replicate qn 0, a) := by
        rw [← h4]
        show _ = divO p iv b i (q.set i (l.getD (i + (b.length - 1)) 0 * iv % p), divI p (l.getD (i + (b.length - 1)) 0 * iv % p) b i l b.length)
        rw [htop, hqi]
      refine ev_eq 13 (.p (i64 i)) (congrArg (fun z => AV.p (PV.val (.int .i64 z))) (show ((i + 1 : Nat) : Int) - 1 = i by omega)) ?_
      refine ev_seq (ev_block ?_)
      have e4 : IntKind.wrap .i64 ((i : Int) + (top : Int)) = ((i + top : Nat) : Int) := by rw [wrapI _ (by omega) (by omega)]; rfl
      refine ev_ds [u64 qi] (by kernel_rfl) rfl rfl ?_ ?_
      · rw [e4, ← hqi]
        exact ⟨(by omega : i + 1 ≤ q.length), ⟨by omega, by omega⟩, .inl (Mul_spec hm _ _), (by omega : i + top < l.length), ⟨by omega, by omega⟩, Nat.zero_lt_one, trivial⟩
      have hqq : (q.set i qi).getD i 0 = qi := by rw [getD_set _ _ _ _ (by omega), if_pos rfl]
      refine ev_set 43 i qi rfl rfl rfl (show i < q.length by omega) ?_
      refine ev_rs [] rfl trivial ?_
      refine ev_block (ev_while (α := Nat) (fun k => k ≤ b.length)
        (fun k => [(0, .p (polyF p)), (2, .p (u64s b)), (8, .own 17 0 a.length 1), (9, .p (i64 top)), (10, .p (u64 iv)), (12, .own 43 0 qn 1), (13, .p (i64 i)), (66, .p (u64s b)), (67, .p (i64 b.length)), (68, .p (i64 k))])
        (fun k => [(17, ob64 (divI p qi b i l k)), (43, ob64 (q.set i qi))]) (fun k => b.length - k) 0
        (Nat.zero_le _) (wk_ob2 rfl rfl rfl rfl (fun hd => ⟨le_refl hd _, le_refl hd _, le_o rfl, le_refl hd _, le_refl hd _, le_o rfl, le_refl hd _, le_refl hd _, le_refl hd _, le_refl hd _, trivial⟩)) ?_)
      rintro k h5
      refine ev_rs [] rfl trivial (ev_seq (ev_cond rfl (fun h => ev_sk ?_) (fun h => ev_exit ?_)))
      · have hk : k < b.length := Int.ofNat_lt.mp (of_decide_eq_true h)
        refine ev_seq (ev_block ?_)
        refine ev_rs [] rfl ⟨hk, ⟨by omega, by omega⟩, trivial⟩ ?_
        have e5 : IntKind.wrap .i64 ((i : Int) + (k : Int)) = ((i + k : Nat) : Int) := by rw [wrapI _ (by omega) (by omega)]; rfl
        have hdl : (divI p qi b i l k).length = a.length := by rw [length_divI, h3]
        obtain ⟨o, ho⟩ : ∃ o, divI p qi b i l k = o := ⟨_, rfl⟩
        have hst2 : divI p qi b i l (k + 1) = o.set (i + k) (sb (o.getD (i + k) 0) (qi * b.getD k 0 % p) p) := by rw [← ho]; rfl
        rw [ho] at hdl
        refine ev_ob 17 (ob64 o) (congrArg (fun l => some (ob64 l)) ho) ?_
        refine ev_draw [u64 (qi * b.getD k 0 % p), u64 (sb (o.getD (i + k) 0) (qi * b.getD k 0 % p) p)] (by kernel_rfl) rfl rfl ?_ ?_
        · rw [e5]
          refine ⟨(by omega : i + k + 1 ≤ o.length), ⟨by omega, by omega⟩, .inl (Sb_spec hm _ _), .inl ?_, (by rw [List.length_set]; omega : i < (q.set i qi).length), ⟨by omega, by omega⟩, Nat.zero_lt_one, (by omega : i + k < o.length), ⟨by omega, by omega⟩, Nat.zero_lt_one, trivial⟩
          show CallSpec _ _ _ [_, u64 ((q.set i qi).getD i 0), _] _
          rw [hqq]
          exact Mul_spec hm _ _
        refine ev_set 17 (i + k) (sb (o.getD (i + k) 0) (qi * b.getD k 0 % p) p) rfl (by show (IntKind.wrap .i64 ((i : Int) + (k : Int))).toNat = _; rw [e5]; rfl) rfl (by omega) ?_
        exact ev_region [] rfl trivial ⟨k + 1, hk, by dsimp only; omega, wk_ob2 rfl rfl (congrArg (fun l => some (ob64 l)) hst2.symm) rfl (fun hd => ⟨le_refl hd _, le_refl hd _, le_o rfl, le_refl hd _, le_refl hd _, le_o rfl, le_refl hd _, le_refl hd _, le_refl hd _, le_n hd (congrArg (fun z => PV.val (.int .i64 z)) (wrapI _ (by omega) (by omega))), trivial⟩)⟩
      · have hk : k = b.length := by
          have := of_decide_eq_false h
          omega
        subst hk
        exact ev_region [] rfl trivial ⟨(i, q.set i qi, divI p qi b i l b.length), ⟨by omega, by rw [List.length_set, h2], by rw [length_divI, h3], hst⟩, Nat.lt_succ_self i, wk_ob2 rfl rfl rfl rfl (fun hd => ⟨le_refl hd _, le_refl hd _, le_o rfl, le_refl hd _, le_refl hd _, le_o rfl, le_n hd (congrArg (fun z => PV.val (.int .i64 z)) (wrapI _ (by omega) (by omega))), trivial⟩)⟩
    · have hn : n = 0 := by
        have := of_decide_eq_false h
        dsimp only at this
        omega
      subst hn
      have h4 : (q, l) = _ := h4
      exact at0 () trivial ⟨le_fz' rfl h3.symm (congrArg Prod.snd h4), le_fz' rfl h2.symm (congrArg Prod.fst h4), trivial⟩
  rintro ⟨⟩ -
  obtain ⟨hA, hB⟩ := length_divO p iv b qn (List.replicate qn 0, a)
  have hA : _ = (List.replicate qn 0).length := hA
  have hB : _ = a.length := hB
  rw [List.length_replicate] at hA
  exact ev_rs [u64s (trimN (divO p iv b qn (List.replicate qn 0, a)).1), u64s (trimN (divO p iv b qn (List.replicate qn 0, a)).2)] rfl ⟨.inl (trim_spec _ (by omega)), .inl (trim_spec _ (by omega)), trivial⟩ (ev_ret (ret2 (fz_p (PLe.refl _)) (fz_p (PLe.refl _))))

theorem divide_spec {p : Nat} (hm : MayM p) (a b : List Nat) (hb0 : 0 < b.length) (hl : a.length < 1000000) (hl2 : b.length < 1000000) :
    CallSpec Tryz.pr.P Tryz.pr.G 38 [polyF p, u64s a, u64s b] (.tup 2 (two (u64s (divN (minv p) p a b).1) (u64s (divN (minv p) p a b).2))) := by
  rcases Nat.lt_or_ge a.length b.length with h | h
  · have e : divN (minv p) p a b = ([], a) := if_pos h
    rw [e]
    exact divide_short a b h hl2
  · exact divide_long hm a b hb0 h hl

theorem remN_len (iv : Nat → Nat) (p : Nat) (a b : List Nat) : (remN iv p a b).length ≤ a.length := by
  unfold remN divN
  split
  · exact Nat.le_refl _
  · have h := (length_divO p (iv (b.getD (b.length - 1) 0)) b (a.length - (b.length - 1)) (List.replicate (a.length - (b.length - 1)) 0, a)).2
    have h : _ = a.length := h
    show (trimN _).length ≤ _
    unfold trimN
    rw [List.length_take]
    omega

theorem PowMod_spec {p : Nat} (hm : MayM p) (a : List Nat) (n : Nat) (b : List Nat) (hn : n < 18446744073709551616) (ha : a.length ≤ 16) (hb : b.length ≤ 17) (hb0 : 0 < (normN p b).length)
    (hpo : powOk (minv p) p (normN p b) 64 n (remN (minv p) p [1] (normN p b)) (remN (minv p) p (normN p a) (normN p b))) :
    CallSpec Tryz.pr.P Tryz.pr.G 25 [polyF p, u64s a, u64 n, u64s b]
      (.tup 2 (two (u64s (powF (minv p) p (normN p b) 64 n (remN (minv p) p [1] (normN p b)) (remN (minv p) p (normN p a) (normN p b)))) (i64 0))) := by
  have hbl : (normN p b).length ≤ 17 := by
    unfold normN trimN
    rw [List.length_take, List.length_map]; omega
  have hal : (normN p a).length ≤ 16 := by
    unfold normN trimN
    rw [List.length_take, List.length_map]; omega
  obtain ⟨bb, hbb⟩ : ∃ bb, normN p b = bb := ⟨_, rfl⟩
  obtain ⟨aa, haa⟩ : ∃ aa, normN p a = aa := ⟨_, rfl⟩
  have hNa := Norm_spec hm a (by omega)
  have hNb := Norm_spec hm b (by omega)
  rw [hbb] at hNb hbl hb0 hpo ⊢
  rw [haa] at hNa hal hpo ⊢
  have hD : ∀ x : List Nat, x.length < 1000000 → CallSpec Tryz.pr.P Tryz.pr.G 38 [polyF p, u64s x, u64s bb] (.tup 2 (two (u64s (divN (minv p) p x bb).1) (u64s (remN (minv p) p x bb)))) := fun x hx => divide_spec hm x bb hb0 hx (by omega)
  have hT : ∀ x y : List Nat, (timesN p x y).length ≤ x.length + y.length := fun x y => by
    unfold timesN trimN
    rw [List.length_take]
    have := length_oneN p x y
    omega
  obtain ⟨o1, ho1⟩ : ∃ o1, remN (minv p) p [1] bb = o1 := ⟨_, rfl⟩
  obtain ⟨a1, ha1⟩ : ∃ a1, remN (minv p) p aa bb = a1 := ⟨_, rfl⟩
  have hD1 := hD [1] (by simp)
  have hD2 := hD aa (by omega)
  rw [ho1] at hD1
  rw [ha1] at hD2
  rw [ho1, ha1] at hpo
  rw [ho1, ha1]
  refine callSpec_of Tryz.pr Tryz.func25 rfl rfl rfl fun w0 ok0 hok hG => ?_
  refine ev_rs [] rfl trivial ?_
  refine ev_seq (ev_rs [] rfl trivial (ev_cf rfl (ev_sk ?_)))
  refine ev_rs [u64s aa, u64s bb] rfl ⟨.inl hNb, .inl hNa, trivial⟩ ?_
  refine ev_seq (ev_rs [] rfl trivial (ev_cond rfl (fun h => ?_) (fun h => ev_sk ?_)))
  · exfalso
    have : bb.length = 0 := Int.ofNat_inj.mp (beq_iff_eq.mp h)
    omega
  refine ev_rs [.tup 2 (two (u64s (divN (minv p) p [1] bb).1) (u64s o1))] rfl ?_ ?_
  · exact ⟨⟨⟨Nat.le_refl 1, trivial⟩, .inl (callSpec_args (as' := [polyF p, u64s [1], u64s bb]) ⟨PLe.refl _, PLe.lit rfl (fun j hj => by match j, hj with | 0, _ => rfl), PLe.refl _, trivial⟩ hD1)⟩, trivial⟩
  refine ev_rs [.tup 2 (two (u64s (divN (minv p) p aa bb).1) (u64s a1))] rfl ⟨.inl hD2, trivial⟩ ?_
  obtain ⟨R, hR⟩ : ∃ R, powF (minv p) p bb 64 n o1 a1 = R := ⟨_, rfl⟩
  rw [hR]
  refine ev_at (α := Unit) (fun _ => True) (fun _ => [(11, .p (u64s R))]) (fun _ => []) ?_ ?_
  · refine ev_block (ev_while0 (α := Nat × Nat × List Nat × List Nat) (fun s => s.2.1 < 2 ^ s.1 ∧ s.2.1 < 18446744073709551616 ∧ powOk (minv p) p bb s.1 s.2.1 s.2.2.1 s.2.2.2 ∧ powF (minv p) p bb s.1 s.2.1 s.2.2.1 s.2.2.2 = R)
      (fun s => [(0, .p (polyF p)), (1, .p (u64s s.2.2.2)), (2, .p (u64 s.2.1)), (3, .p (u64s bb)), (11, .p (u64s s.2.2.1))]) (fun s => s.1) (64, n, o1, a1)
      ⟨hn, hn, hpo, hR⟩ ⟨le_0, le_0, le_0, le_0, le_0, trivial⟩ ?_)
    rintro ⟨f, x, o, y⟩ ⟨h1, h2, h3, h4⟩
    dsimp only at h1 h2 h3 h4
    refine ev_seq (ev_rs [] rfl trivial (ev_cond rfl (fun h => ev_sk ?_) (fun h => ev_exit ?_)))
    · have hx : 0 < x := Int.ofNat_lt.mp (of_decide_eq_true h)
      have hx0 : x ≠ 0 := by omega
      obtain ⟨f, rfl⟩ : ∃ g, f = g + 1 := by
        cases f with
        | zero => simp at h1; omega
        | succ g => exact ⟨g, rfl⟩
      obtain ⟨l1, l2, hk⟩ := (show x = 0 ∨ _ from h3).resolve_left hx0
      have h4 : (if x = 0 then o else powF (minv p) p bb f (x / 2) (if x % 2 = 1 then remN (minv p) p (timesN p o y) bb else o) (remN (minv p) p (timesN p y y) bb)) = R := h4
      rw [if_neg hx0] at h4
      have ho16 : o.length ≤ 16 := l1
      have ht1 := hT o y
      have ht2 := hT y y
      refine ev_seq (ev_block ?_)
      refine ev_at (α := Unit) (fun _ => True) (fun _ => [(0, .p (polyF p)), (1, .p (u64s y)), (2, .p (u64 x)), (3, .p (u64s bb)), (11, .p (u64s (if x % 2 = 1 then remN (minv p) p (timesN p o y) bb else o)))]) (fun _ => []) ?_ ?_
      · refine ev_rs [] rfl trivial (ev_cond rfl (fun h => ?_) (fun h => ?_))
        · have hx1 : x % 2 = 1 := by
            have := beq_iff_eq.mp h
            rw [and1 x h2] at this
            exact Int.ofNat_inj.mp this
          refine ev_region [u64s (timesN p o y), .tup 2 (two (u64s (divN (minv p) p (timesN p o y) bb).1) (u64s (remN (minv p) p (timesN p o y) bb)))] rfl ⟨.inl (hD _ (by omega)), .inl (times_spec2 hm o y l1 l2), trivial⟩ (at0 () trivial ⟨le_0, le_0, le_0, le_0, le_e (congrArg u64s ?_), trivial⟩)
          rw [if_pos hx1]
        · have hx1 : ¬ x % 2 = 1 := fun e => by
            have := beq_eq_false_iff_ne.mp h
            rw [and1 x h2] at this
            exact this (Int.ofNat_inj.mpr e)
          refine ev_skip (at0 () trivial ⟨le_0, le_0, le_0, le_0, le_e (congrArg u64s ?_), trivial⟩)
          rw [if_neg hx1]
      rintro ⟨⟩ -
      refine ev_region [u64s (timesN p y y), .tup 2 (two (u64s (divN (minv p) p (timesN p y y) bb).1) (u64s (remN (minv p) p (timesN p y y) bb)))] rfl ⟨.inl (hD _ (by omega)), .inl (times_spec2 hm y y l2 l2), trivial⟩ ?_
      exact ev_region [] rfl ⟨by decide, trivial⟩ (round0 (f, x / 2, if x % 2 = 1 then remN (minv p) p (timesN p o y) bb else o, remN (minv p) p (timesN p y y) bb) ⟨by rw [Nat.pow_succ] at h1; dsimp only; omega, by dsimp only; omega, hk, h4⟩ (Nat.lt_succ_self f)
        ⟨le_0, le_0, le_e (congrArg (fun z => PV.val (.int .u64 z)) (shr1 x)), le_0, le_0, trivial⟩)
    · have hx : x = 0 := by
        have := of_decide_eq_false h
        dsimp only at this
        omega
      refine at0 () trivial ⟨le_e (congrArg u64s ?_), trivial⟩
      rw [hx] at h4
      cases f with
      | zero => exact h4
      | succ f => exact h4
  rintro ⟨⟩ -
  exact ev_rs [] rfl trivial (ev_ret (ret2 (fz_p (PLe.refl _)) (fz_p (PLe.refl _))))

end Go.Proofs
