/- The reference of upoly, walked. -/
import Derived.Test.YtmpfgaebmdbdeaaDoorHalf
import Derived.Test.YtmpfgaebmdbdeaaDoorVincUg
set_option linter.unusedVariables false
namespace Go.Proofs
open Go Vinc Vinc.Num

theorem tabL_scale (p : Nat) (a : List Nat) (x : Nat) : tabL (fun i => a.getD i 0 * x % p) a.length = scaleL p a x := by
  refine list_eq (by simp [tabL, scaleL]) fun j hj => ?_
  have hj : j < a.length := by simpa [tabL] using hj
  rw [getD_tabL, if_pos hj]
  unfold scaleL
  simp [List.getD_eq_getElem?_getD, hj]

theorem tabL_map (p : Nat) (a : List Nat) : tabL (fun i => a.getD i 0 % p) a.length = a.map (· % p) := by
  refine list_eq (by simp [tabL]) fun j hj => ?_
  have hj : j < a.length := by simpa [tabL] using hj
  rw [getD_tabL, if_pos hj]
  simp [List.getD_eq_getElem?_getD, hj]

theorem length_tabL (f : Nat → Nat) (n : Nat) : (tabL f n).length = n := by simp [tabL]

theorem RNorm_spec {p : Nat} (hm : MayM p) (a : List Nat) (hl : a.length < 1000000) : CallSpec Tryd.pr.P Tryd.pr.G 11 [u64s a, u64 p] (u64s (normN p a)) := by
  have hp0 := hm.1
  obtain ⟨ms, hms⟩ : ∃ ms, a.map (· % p) = ms := ⟨_, rfl⟩
  have hml : ms.length = a.length := by rw [← hms, List.length_map]
  obtain ⟨f, hf⟩ : ∃ f : Nat → Nat, f = fun i => a.getD i 0 % p := ⟨_, rfl⟩
  have hall : tabL f a.length = ms := by rw [hf, tabL_map, hms]
  have hN : normN p a = ms.take (trimL ms ms.length) := by unfold normN trimN; rw [hms]
  rw [hN]
  refine callSpec_of Tryd.pr Tryd.func11 rfl rfl rfl fun w0 ok0 hok hG => ?_
  refine ev_rs [] rfl trivial ?_
  refine ev_rs [] rfl trivial (ev_nilown 5 5 rfl rfl ?_)
  refine ev_at (α := Unit) (fun _ => True) (fun _ => [(5, .p (u64s ms))]) (fun _ => []) ?_ ?_
  · refine ev_rs [] rfl trivial ?_
    refine ev_block (ev_while (α := Nat) (fun i => i ≤ a.length) (fun i => [(0, .p (u64s a)), (1, .p (u64 p)), (5, .own 5 0 i 1), (6, .p (i64 i))]) (fun i => [(5, ob64 (tabL f i))]) (fun i => a.length - i) 0
      (Nat.zero_le _) (wk_ob rfl (fun hd => ⟨le_refl hd _, le_refl hd _, le_o rfl, le_refl hd _, trivial⟩)) ?_)
    rintro i h1
    refine ev_seq (ev_rs [] rfl trivial (ev_cond rfl (fun h => ev_sk ?_) (fun h => ev_exit ?_)))
    · have hi : i < a.length := Int.ofNat_lt.mp (of_decide_eq_true h)
      have htl := length_tabL f i
      have hfi : f i = a.getD i 0 % p := by rw [hf]
      refine ev_seq (ev_block ?_)
      refine ev_region [] rfl ?_ (ev_app 5 21 (tabL f i) [f i] rfl rfl (by rw [htl]; rfl) (by show i + 1 = _; rw [htl]; rfl) htl.symm (fun j hj => rfl) (fun j hj => ?_) ?_)
      · exact ⟨⟨by omega, htl, Nat.le_refl 1⟩, by simp; omega, hi, ⟨by omega, by omega⟩, trivial⟩
      · match j, hj with
        | 0, _ => rw [hfi]; rfl
      have hst : tabL f i ++ [f i] = tabL f (i + 1) := (tabL_snoc f i).symm
      exact ev_region [] rfl trivial ⟨i + 1, hi, by dsimp only; omega, wk_ren (i' := 21) (congrArg (fun l => some (ob64 l)) hst) (fun hd => ⟨le_refl hd _, le_refl hd _, le_ren rfl (by rw [hst, length_tabL]), le_n hd (congrArg (fun z => PV.val (.int .i64 z)) (wrapI _ (by omega) (by omega))), trivial⟩)⟩
    · have hi : i = a.length := by
        have := of_decide_eq_false h
        omega
      subst hi
      exact at0 () trivial ⟨le_fz' rfl (length_tabL f a.length).symm hall, trivial⟩
  rintro ⟨⟩ -
  have ht := trimL_le ms ms.length
  refine ev_at (α := Unit) (fun _ => True) (fun _ => [(5, .p (.sl (trimL ms ms.length) 1 (fun j => u64 (ms.getD j 0))))]) (fun _ => []) ?_ ?_
  · refine ev_block (ev_while0 (α := Nat) (fun n => n ≤ ms.length ∧ trimL ms n = trimL ms ms.length) (fun n => [(5, .p (.sl n 1 (fun j => u64 (ms.getD j 0))))]) (fun n => n) ms.length ⟨Nat.le_refl _, rfl⟩ ⟨le_0, trivial⟩ ?_)
    rintro n ⟨h1, h2⟩
    cases n with
    | zero =>
      exact ev_seq (ev_rs [] rfl (by repeat' (first | exact trivial | exact gd_t | exact gd_f | exact fun h => absurd h (by decide) | exact (fun _ => rfl) | intro _ | apply And.intro | assumption | exact rfl | exact gd_t (by assumption) | exact gd_f (by assumption) | exact gd_a (by assumption) (by assumption))) (ev_cf rfl (ev_exit (at0 () trivial ⟨le_e (congrArg (fun z : Nat => PV.sl z 1 (fun j => u64 (ms.getD j 0))) h2), trivial⟩))))
    | succ n =>
      have e1 : IntKind.wrap .i64 (((n + 1 : Nat) : Int) - 1) = (n : Int) := by rw [wrapI _ (by omega) (by omega)]; omega
      have hpos : decide (((n + 1 : Nat) : Int) > 0) = true := decide_eq_true (by omega)
      have hn1 : n < n + 1 := Nat.lt_succ_self n
      refine ev_seq (ev_rs [] rfl ?_ (ev_cond rfl (fun h => ev_sk ?_) (fun h => ev_exit ?_)))
      · rw [e1]
        exact (by repeat' (first | exact trivial | exact gd_t | exact gd_f | exact hn1 | exact Int.natCast_nonneg _ | exact Int.ofNat_lt.mpr hn1 | exact (fun _ => rfl) | intro _ | apply And.intro | assumption | exact rfl | exact gd_t (by assumption) | exact gd_f (by assumption) | exact gd_a (by assumption) (by assumption)))
      · rw [hpos, e1] at h
        have h0 : ms.getD n 0 = 0 := Int.ofNat_inj.mp (beq_iff_eq.mp h)
        refine ev_block (ev_region [] rfl ?_ (round0 n ⟨by omega, ?_⟩ (Nat.lt_succ_self n) ⟨le_e (congrArg (fun z : Int => PV.sl z.toNat 1 (fun j => u64 (ms.getD j 0))) e1), trivial⟩))
        · rw [e1]
          exact ⟨⟨by omega, by omega⟩, trivial⟩
        rw [← h2]
        show _ = if ms.getD n 0 = 0 then trimL ms n else n + 1
        rw [if_pos h0]
      · rw [hpos, e1] at h
        have h0 : ¬ ms.getD n 0 = 0 := fun e => (beq_eq_false_iff_ne.mp h) (Int.ofNat_inj.mpr e)
        refine at0 () trivial ⟨le_e (congrArg (fun z : Nat => PV.sl z 1 (fun j => u64 (ms.getD j 0))) ?_), trivial⟩
        rw [← h2]
        show _ = if ms.getD n 0 = 0 then trimL ms n else n + 1
        rw [if_neg h0]
  rintro ⟨⟩ -
  exact ev_rs [] rfl trivial (ev_ret (ret1 (fz_p (PLe.take ht))))

theorem coeff_spec (a : List Nat) (i : Nat) : CallSpec Tryd.pr.P Tryd.pr.G 44 [u64s a, i64 i] (u64 (a.getD i 0)) := by
  refine callSpec_of Tryd.pr Tryd.func44 rfl rfl rfl fun w0 ok0 hok hG => ?_
  refine ev_rs [] rfl trivial ?_
  refine ev_seq (ev_rs [] rfl trivial (ev_cond rfl (fun h => ?_) (fun h => ev_sk ?_)))
  · have hi : i < a.length := Int.ofNat_lt.mp (of_decide_eq_true h)
    exact ev_rs [] rfl ⟨hi, ⟨by omega, by omega⟩, trivial⟩ (ev_ret (ret1 (fz_p (PLe.refl _))))
  · have hi : a.length ≤ i := by
      have := of_decide_eq_false h
      omega
    rw [getD_ge hi]
    exact ev_rs [] rfl trivial (ev_ret (ret1 (fz_p (PLe.refl _))))

theorem RAdd_spec {p : Nat} (hm : MayM p) (a b : List Nat) (hl : a.length < 100000) (hl2 : b.length < 100000) : CallSpec Tryd.pr.P Tryd.pr.G 17 [u64s a, u64s b, u64 p] (u64s (rAdd p a b)) := by
  obtain ⟨L, hL⟩ : ∃ L, max a.length b.length = L := ⟨_, rfl⟩
  obtain ⟨f, hf⟩ : ∃ f : Nat → Nat, f = fun j => (a.getD j 0 + b.getD j 0) % p := ⟨_, rfl⟩
  have hall : tabL f L = addL p a b := by rw [hf, ← hL]; rfl
  refine callSpec_of Tryd.pr Tryd.func17 rfl rfl rfl fun w0 ok0 hok hG => ?_
  refine ev_rs [] rfl trivial ?_
  refine ev_rs [] rfl trivial (ev_nilown 7 7 rfl rfl ?_)
  refine ev_at (α := Unit) (fun _ => True) (fun _ => [(2, .p (u64 p)), (7, .p (u64s (addL p a b)))]) (fun _ => []) ?_ ?_
  · refine ev_rs [] rfl trivial ?_
    refine ev_block (ev_while (α := Nat) (fun i => i ≤ L) (fun i => [(0, .p (u64s a)), (1, .p (u64s b)), (2, .p (u64 p)), (7, .own 7 0 i 1), (8, .p (i64 i))]) (fun i => [(7, ob64 (tabL f i))]) (fun i => L - i) 0
      (Nat.zero_le _) (wk_ob rfl (fun hd => ⟨le_refl hd _, le_refl hd _, le_refl hd _, le_o rfl, le_refl hd _, trivial⟩)) ?_)
    rintro i h1
    refine ev_seq (ev_rs [] rfl (by repeat' (first | exact trivial | exact gd_t | exact gd_f | exact (fun _ => rfl) | intro _ | apply And.intro | assumption | exact rfl | exact gd_t (by assumption) | exact gd_f (by assumption) | exact gd_a (by assumption) (by assumption))) (ev_cond rfl (fun h => ev_sk ?_) (fun h => ev_exit ?_)))
    · have hi : i < L := by
        rcases Nat.lt_or_ge i L with h2 | h2
        · exact h2
        · rw [decide_eq_false (by omega), decide_eq_false (by omega)] at h
          cases h
      have htl := length_tabL f i
      have hfi : f i = (a.getD i 0 + b.getD i 0) % p := by rw [hf]
      refine ev_seq (ev_block ?_)
      refine ev_region [u64 (a.getD i 0), u64 (b.getD i 0), u64 (f i)] rfl ?_ (ev_app 7 31 (tabL f i) [f i] rfl rfl (by rw [htl]; rfl) (by show i + 1 = _; rw [htl]; rfl) htl.symm (fun j hj => rfl) (fun j hj => ?_) ?_)
      · rw [hfi]
        exact ⟨⟨by omega, htl, Nat.le_refl 1⟩, .inl (RefAdd_spec hm _ _), .inl (coeff_spec b i), .inl (coeff_spec a i), trivial⟩
      · match j, hj with
        | 0, _ => rfl
      have hst : tabL f i ++ [f i] = tabL f (i + 1) := (tabL_snoc f i).symm
      exact ev_region [] rfl trivial ⟨i + 1, hi, by dsimp only; omega, wk_ren (i' := 31) (congrArg (fun l => some (ob64 l)) hst) (fun hd => ⟨le_refl hd _, le_refl hd _, le_refl hd _, le_ren rfl (by rw [hst, length_tabL]), le_n hd (congrArg (fun z => PV.val (.int .i64 z)) (wrapI _ (by omega) (by omega))), trivial⟩)⟩
    · have hi : i = L := by
        rcases Nat.lt_or_ge i L with h2 | h2
        · exfalso
          by_cases h3 : i < a.length
          · rw [decide_eq_true (Int.ofNat_lt.mpr h3)] at h; cases h
          · rw [decide_eq_false (by omega), decide_eq_true (Int.ofNat_lt.mpr (by omega))] at h
            cases h
        · omega
      subst hi
      exact at0 () trivial ⟨le_refl (fun k hk => by cases hk) _, le_fz' rfl (length_tabL f i).symm hall, trivial⟩
  rintro ⟨⟩ -
  exact ev_rs [u64s (rAdd p a b)] rfl ⟨.inl (RNorm_spec hm (addL p a b) (by rw [length_addL]; omega)), trivial⟩ (ev_ret (ret1 (fz_p (PLe.refl _))))

theorem RScale_spec {p : Nat} (hm : MayM p) (a : List Nat) (x : Nat) (hl : a.length < 100000) (hx : x < 18446744073709551616) : CallSpec Tryd.pr.P Tryd.pr.G 46 [u64s a, u64 x, u64 p] (u64s (rScale p a x)) := by
  obtain ⟨f, hf⟩ : ∃ f : Nat → Nat, f = fun i => a.getD i 0 * x % p := ⟨_, rfl⟩
  have hall : tabL f a.length = scaleL p a x := by rw [hf]; exact tabL_scale p a x
  refine callSpec_of Tryd.pr Tryd.func46 rfl rfl rfl fun w0 ok0 hok hG => ?_
  refine ev_rs [] rfl trivial ?_
  refine ev_rs [] rfl trivial (ev_nilown 7 7 rfl rfl ?_)
  refine ev_at (α := Unit) (fun _ => True) (fun _ => [(2, .p (u64 p)), (7, .p (u64s (scaleL p a x)))]) (fun _ => []) ?_ ?_
  · refine ev_rs [] rfl trivial ?_
    refine ev_block (ev_while (α := Nat) (fun i => i ≤ a.length) (fun i => [(0, .p (u64s a)), (1, .p (u64 x)), (2, .p (u64 p)), (7, .own 7 0 i 1), (8, .p (i64 i))]) (fun i => [(7, ob64 (tabL f i))]) (fun i => a.length - i) 0
      (Nat.zero_le _) (wk_ob rfl (fun hd => ⟨le_refl hd _, le_refl hd _, le_refl hd _, le_o rfl, le_refl hd _, trivial⟩)) ?_)
    rintro i h1
    refine ev_seq (ev_rs [] rfl trivial (ev_cond rfl (fun h => ev_sk ?_) (fun h => ev_exit ?_)))
    · have hi : i < a.length := Int.ofNat_lt.mp (of_decide_eq_true h)
      have htl := length_tabL f i
      have hfi : f i = a.getD i 0 * x % p := by rw [hf]
      refine ev_seq (ev_block ?_)
      refine ev_region [u64 (f i)] rfl ?_ (ev_app 7 24 (tabL f i) [f i] rfl rfl (by rw [htl]; rfl) (by show i + 1 = _; rw [htl]; rfl) htl.symm (fun j hj => rfl) (fun j hj => ?_) ?_)
      · rw [hfi]
        exact ⟨⟨by omega, htl, Nat.le_refl 1⟩, .inl (RefMul_spec hm _ _ hx), hi, ⟨by omega, by omega⟩, trivial⟩
      · match j, hj with
        | 0, _ => rfl
      have hst : tabL f i ++ [f i] = tabL f (i + 1) := (tabL_snoc f i).symm
      exact ev_region [] rfl trivial ⟨i + 1, hi, by dsimp only; omega, wk_ren (i' := 24) (congrArg (fun l => some (ob64 l)) hst) (fun hd => ⟨le_refl hd _, le_refl hd _, le_refl hd _, le_ren rfl (by rw [hst, length_tabL]), le_n hd (congrArg (fun z => PV.val (.int .i64 z)) (wrapI _ (by omega) (by omega))), trivial⟩)⟩
    · have hi : i = a.length := by
        have := of_decide_eq_false h
        omega
      subst hi
      exact at0 () trivial ⟨le_refl (fun k hk => by cases hk) _, le_fz' rfl (length_tabL f a.length).symm hall, trivial⟩
  rintro ⟨⟩ -
  exact ev_rs [u64s (rScale p a x)] rfl ⟨.inl (RNorm_spec hm (scaleL p a x) (by rw [length_scaleL]; omega)), trivial⟩ (ev_ret (ret1 (fz_p (PLe.refl _))))

theorem length_normN (p : Nat) (a : List Nat) : (normN p a).length ≤ a.length := by
  unfold normN
  rw [length_trimN]
  have := trimL_le (a.map (· % p)) (a.map (· % p)).length
  rw [List.length_map] at this ⊢
  exact this

theorem length_rAdd (p : Nat) (a b : List Nat) : (rAdd p a b).length ≤ max a.length b.length := by
  have := length_normN p (addL p a b)
  rwa [length_addL] at this

theorem length_rSub (p : Nat) (a b : List Nat) : (rSub p a b).length ≤ max a.length b.length := by
  have h1 := length_rAdd p a (rScale p b (p - 1))
  have h2 := length_normN p (scaleL p b (p - 1))
  rw [length_scaleL] at h2
  have h1 : (rSub p a b).length ≤ max a.length (rScale p b (p - 1)).length := h1
  have h2 : (rScale p b (p - 1)).length ≤ b.length := h2
  omega

theorem RSub_spec {p : Nat} (hm : MayM p) (a b : List Nat) (hl : a.length < 100000) (hl2 : b.length < 100000) : CallSpec Tryd.pr.P Tryd.pr.G 19 [u64s a, u64s b, u64 p] (u64s (rSub p a b)) := by
  have hp0 := hm.1
  have hp2 := hm.2
  have h2 : (rScale p b (p - 1)).length ≤ b.length := by
    have := length_normN p (scaleL p b (p - 1))
    rwa [length_scaleL] at this
  have e1 : IntKind.wrap .u64 ((p : Int) - 1) = ((p - 1 : Nat) : Int) := wrapSub p 1 (by omega) (by omega)
  refine callSpec_of Tryd.pr Tryd.func19 rfl rfl rfl fun w0 ok0 hok hG => ?_
  refine ev_rs [] rfl trivial ?_
  refine ev_rs [u64s (rScale p b (p - 1)), u64s (rSub p a b)] rfl ?_ (ev_ret (ret1 (fz_p (PLe.refl _))))
  rw [e1]
  exact ⟨.inl (RAdd_spec hm a (rScale p b (p - 1)) hl (by omega)), .inl (RScale_spec hm b (p - 1) hl2 (by omega)), trivial⟩

def W64 (xs : List Nat) : Prop := ∀ j, xs.getD j 0 < 18446744073709551616

theorem Mul06_spec {p : Nat} (hm : MayM p) (a b : List Nat) (hl : a.length < 100000) (hl2 : b.length < 100000) (hw : W64 b) : CallSpec Tryd.pr.P Tryd.pr.G 56 [u64s a, u64s b, u64 p] (u64s (oneN p a b)) := by
  refine callSpec_of Tryd.pr Tryd.func56 rfl rfl rfl fun w0 ok0 hok hG => ?_
  refine ev_rs [] rfl trivial ?_
  refine ev_seq (ev_rs [] rfl (by repeat' (first | exact trivial | exact gd_t | exact gd_f | exact (fun _ => rfl) | intro _ | apply And.intro | assumption | exact rfl | exact gd_t (by assumption) | exact gd_f (by assumption) | exact gd_a (by assumption) (by assumption))) (ev_cond rfl (fun h => ?_) (fun h => ev_sk ?_)))
  · have h0 : a.length = 0 ∨ b.length = 0 := by
      by_cases ha : a.length = 0
      · exact .inl ha
      · right
        have e : (((a.length : Nat) : Int) == 0) = false := beq_eq_false_iff_ne.mpr (by omega)
        rw [e] at h
        exact Int.ofNat_inj.mp (beq_iff_eq.mp h)
    have e : oneN p a b = [] := if_pos h0
    rw [e]
    exact ev_rs [] rfl trivial (ev_ret (ret1 (fz_p PLe.nil)))
  have h0 : ¬ (a.length = 0 ∨ b.length = 0) := by
    rintro (e | e)
    · rw [e] at h; cases h
    · rw [e] at h
      cases hd : (((a.length : Nat) : Int) == 0) <;> rw [hd] at h <;> cases h
  have e0 : oneN p a b = oneO p a b a.length := if_neg h0
  rw [e0]
  have e1 : IntKind.wrap .i64 (IntKind.wrap .i64 ((a.length : Int) + (b.length : Int)) - 1) = ((a.length + b.length - 1 : Nat) : Int) := by
    rw [wrapI ((a.length : Int) + (b.length : Int)) (by omega) (by omega), wrapI _ (by omega) (by omega)]; omega
  obtain ⟨L, hL⟩ : ∃ L, a.length + b.length - 1 = L := ⟨_, rfl⟩
  refine ev_rs [] rfl ?_ ?_
  · rw [e1]
    exact ⟨⟨by omega, by omega, by omega⟩, trivial⟩
  refine ev_made 7 24 L rfl rfl (show (IntKind.wrap .i64 (IntKind.wrap .i64 ((a.length : Int) + (b.length : Int)) - 1)).toNat = _ by rw [e1]; exact hL) ?_
  refine ev_at (α := Unit) (fun _ => True) (fun _ => [(7, .own 24 0 L 1)]) (fun _ => [(24, ob64 (oneO p a b a.length))]) ?_ ?_
  · refine ev_rs [] rfl trivial ?_
    refine ev_block (ev_while (α := Nat) (fun i => i ≤ a.length) (fun i => [(0, .p (u64s a)), (1, .p (u64s b)), (2, .p (u64 p)), (7, .own 24 0 L 1), (8, .p (i64 i))]) (fun i => [(24, ob64 (oneO p a b i))]) (fun i => a.length - i) 0
      (Nat.zero_le _) (wk_ob (congrArg (fun l => some (ob64 (List.replicate l 0))) hL.symm) (fun hd => ⟨le_refl hd _, le_refl hd _, le_refl hd _, le_o rfl, le_refl hd _, trivial⟩)) ?_)
    rintro i h1
    refine ev_seq (ev_rs [] rfl trivial (ev_cond rfl (fun h => ev_sk ?_) (fun h => ev_exit ?_)))
    · have hi : i < a.length := Int.ofNat_lt.mp (of_decide_eq_true h)
      refine ev_seq (ev_block ?_)
      refine ev_rs [] rfl trivial ?_
      refine ev_block (ev_while (α := Nat) (fun k => k ≤ b.length) (fun k => [(0, .p (u64s a)), (1, .p (u64s b)), (2, .p (u64 p)), (7, .own 24 0 L 1), (8, .p (i64 i)), (9, .p (i64 k))])
        (fun k => [(24, ob64 (oneI p (a.getD i 0) b i (oneO p a b i) k))]) (fun k => b.length - k) 0
        (Nat.zero_le _) (wk_ob rfl (fun hd => ⟨le_refl hd _, le_refl hd _, le_refl hd _, le_o rfl, le_refl hd _, le_refl hd _, trivial⟩)) ?_)
      rintro k h2
      refine ev_seq (ev_rs [] rfl trivial (ev_cond rfl (fun h => ev_sk ?_) (fun h => ev_exit ?_)))
      · have hk : k < b.length := Int.ofNat_lt.mp (of_decide_eq_true h)
        refine ev_seq (ev_block ?_)
        have e2 : IntKind.wrap .i64 ((i : Int) + (k : Int)) = ((i + k : Nat) : Int) := by rw [wrapI _ (by omega) (by omega)]; rfl
        have hck : (oneI p (a.getD i 0) b i (oneO p a b i) k).length = L := by rw [length_oneI, length_oneO, hL]
        obtain ⟨o, ho⟩ : ∃ o, oneI p (a.getD i 0) b i (oneO p a b i) k = o := ⟨_, rfl⟩
        have hst : oneI p (a.getD i 0) b i (oneO p a b i) (k + 1) = o.set (i + k) ((o.getD (i + k) 0 + a.getD i 0 * b.getD k 0 % p) % p) := by rw [← ho]; rfl
        rw [ho] at hck
        refine ev_ob 24 (ob64 o) (congrArg (fun l => some (ob64 l)) ho) ?_
        refine ev_draw [u64 (a.getD i 0 * b.getD k 0 % p), u64 ((o.getD (i + k) 0 + a.getD i 0 * b.getD k 0 % p) % p)] (by kernel_rfl) rfl rfl ?_ ?_
        · rw [e2]
          exact ⟨(by omega : i + k + 1 ≤ o.length), ⟨by omega, by omega⟩, .inl (RefAdd_spec hm _ _), .inl (RefMul_spec hm _ _ (hw k)), hk, ⟨by omega, by omega⟩, hi, ⟨by omega, by omega⟩, (by omega : i + k < o.length), ⟨by omega, by omega⟩, trivial⟩
        refine ev_set 24 (i + k) ((o.getD (i + k) 0 + a.getD i 0 * b.getD k 0 % p) % p) rfl (by show (IntKind.wrap .i64 ((i : Int) + (k : Int))).toNat = _; rw [e2]; rfl) rfl (by omega) ?_
        exact ev_region [] rfl trivial ⟨k + 1, hk, by dsimp only; omega, wk_ob (congrArg (fun l => some (ob64 l)) hst.symm) (fun hd => ⟨le_refl hd _, le_refl hd _, le_refl hd _, le_o rfl, le_refl hd _, le_n hd (congrArg (fun z => PV.val (.int .i64 z)) (wrapI _ (by omega) (by omega))), trivial⟩)⟩
      · have hk : k = b.length := by
          have := of_decide_eq_false h
          omega
        subst hk
        exact ev_region [] rfl trivial ⟨i + 1, hi, by dsimp only; omega, wk_ob rfl (fun hd => ⟨le_refl hd _, le_refl hd _, le_refl hd _, le_o rfl, le_n hd (congrArg (fun z => PV.val (.int .i64 z)) (wrapI _ (by omega) (by omega))), trivial⟩)⟩
    · have hi : i = a.length := by
        have := of_decide_eq_false h
        omega
      subst hi
      exact at_ob () trivial rfl (fun hd => ⟨le_o rfl, trivial⟩)
  rintro ⟨⟩ -
  exact ev_rs [] rfl trivial (ev_ret (ret1 (fz_ob' rfl (by rw [length_oneO, hL]) rfl)))

theorem RMul_spec {p : Nat} (hm : MayM p) (a b : List Nat) (hl : a.length < 100000) (hl2 : b.length < 100000) (hw : W64 b) : CallSpec Tryd.pr.P Tryd.pr.G 38 [u64s a, u64s b, u64 p] (u64s (rMul p a b)) := by
  refine callSpec_of Tryd.pr Tryd.func38 rfl rfl rfl fun w0 ok0 hok hG => ?_
  refine ev_rs [] rfl trivial ?_
  have := length_oneN p a b
  exact ev_rs [u64s (oneN p a b), u64s (rMul p a b)] rfl ⟨.inl (RNorm_spec hm (oneN p a b) (by omega)), .inl (Mul06_spec hm a b hl hl2 hw), trivial⟩ (ev_ret (ret1 (fz_p (PLe.refl _))))

theorem RInv_spec {p : Nat} (hm : MayM p) (x : Nat) (hx : x < 18446744073709551616) : CallSpec Tryd.pr.P Tryd.pr.G 36 [u64 x, u64 p] (u64 (rInv p x)) := by
  have hp0 := hm.1
  have hp2 := hm.2
  have e1 : IntKind.wrap .u64 ((p : Int) - 2) = ((p - 2 : Nat) : Int) := wrapSub p 2 (by omega) (by omega)
  refine callSpec_of Tryd.pr Tryd.func36 rfl rfl rfl fun w0 ok0 hok hG => ?_
  refine ev_rs [] rfl trivial ?_
  refine ev_rs [u64 (rInv p x)] rfl ?_ (ev_ret (ret1 (fz_p (PLe.refl _))))
  rw [e1]
  exact ⟨.inl (RefPow_spec hm x (p - 2) hx (by omega)), trivial⟩

theorem nz_w64 {p : Nat} (hm : MayM p) {a : List Nat} (h : Nz p a) : W64 a := fun j => by
  have h1 := h.lt j
  have h2 := hm.2
  omega

theorem length_term (d c : Nat) : (term d c).length = d + 1 := by simp [term]

theorem RDiv_spec {p : Nat} (hm : MayM p) (hpr : IsPrime p) (a b : List Nat) (hl : a.length < 10000) (hl2 : b.length < 10000) (hb0 : 0 < (normN p b).length) :
    CallSpec Tryd.pr.P Tryd.pr.G 12 [u64s a, u64s b, u64 p] (.tup 2 (two (u64s (rDiv p a b).1) (u64s (rDiv p a b).2))) := by
  have hp0 := hm.1
  have hp2 := hm.2
  have hnb := Nz.norm (by omega : 0 < p) b
  have hna := Nz.norm (by omega : 0 < p) a
  have hNa := RNorm_spec hm a (by omega)
  have hNb := RNorm_spec hm b (by omega)
  have la := length_normN p a
  have lb := length_normN p b
  obtain ⟨inv, hinv⟩ : ∃ inv, rInv p ((normN p b).getD ((normN p b).length - 1) 0) = inv := ⟨_, rfl⟩
  have hinvp : inv < p := by rw [← hinv]; exact Nat.mod_lt _ (by omega)
  obtain ⟨R, hR⟩ : ∃ R, rDiv p a b = R := ⟨_, rfl⟩
  have hR2 : rDivF p inv (normN p b) ((normN p a).length + 1) ([], normN p a) = R := by rw [← hR, ← hinv]; rfl
  rw [hR]
  have hcg : cg p ((((normN p b).getD ((normN p b).length - 1) 0 : Nat) : Int) * inv) 1 := by
    rw [← hinv]
    exact rInv_cg hpr (by rw [Nat.mod_eq_of_lt (hnb.lt _)]; exact hnb.last hb0)
  have hI := RInv_spec hm ((normN p b).getD ((normN p b).length - 1) 0) (nz_w64 hm hnb _)
  rw [hinv] at hI
  generalize normN p b = nb at *
  generalize normN p a = na at *
  have e1 : IntKind.wrap .i64 ((nb.length : Int) - 1) = ((nb.length - 1 : Nat) : Int) := by rw [wrapI _ (by omega) (by omega)]; omega
  refine callSpec_of Tryd.pr Tryd.func12 rfl rfl rfl fun w0 ok0 hok hG => ?_
  refine ev_rs [] rfl trivial ?_
  refine ev_rs [u64s na] rfl ⟨.inl hNa, trivial⟩ ?_
  refine ev_rs [u64s nb] rfl ⟨.inl hNb, trivial⟩ ?_
  refine ev_rs [] rfl trivial ?_
  refine ev_rs [u64 inv] rfl ?_ ?_
  · rw [e1]
    exact ⟨.inl hI, (by omega : nb.length - 1 < nb.length), ⟨by omega, by omega⟩, trivial⟩
  refine ev_at (α := Unit) (fun _ => True) (fun _ => [(0, .p (u64s R.2)), (8, .p (u64s R.1))]) (fun _ => []) ?_ ?_
  · refine ev_block (ev_while0 (α := Nat × List Nat × List Nat) (fun s => s.2.2.length ≤ s.1 ∧ Nz p s.2.2 ∧ s.2.2.length ≤ na.length ∧ s.2.1.length ≤ na.length ∧ rDivF p inv nb s.1 (s.2.1, s.2.2) = R ∧ (s.1 = 0 → s.2.2.length < nb.length))
      (fun s => [(0, .p (u64s s.2.2)), (1, .p (u64s nb)), (2, .p (u64 p)), (8, .p (u64s s.2.1)), (9, .p (u64 inv))]) (fun s => s.1) (na.length + 1, [], na)
      ⟨by dsimp only; omega, hna, Nat.le_refl _, Nat.zero_le _, hR2, fun h => by dsimp only at h; omega⟩ ⟨le_0, le_0, le_0, le_p ren_nil PLe.nil, le_0, trivial⟩ ?_)
    rintro ⟨f, q, x⟩ ⟨h1, h2, h3, h4, h5, h6⟩
    dsimp only at h1 h2 h3 h4 h5 h6
    refine ev_seq (ev_rs [] rfl trivial (ev_cond rfl (fun h => ev_sk ?_) (fun h => ev_exit ?_)))
    · have hge : nb.length ≤ x.length := Int.ofNat_le.mp (of_decide_eq_true h)
      obtain ⟨f, rfl⟩ : ∃ g, f = g + 1 := ⟨f - 1, by
        rcases Nat.eq_zero_or_pos f with e | e
        · have := h6 e; omega
        · omega⟩
      obtain ⟨d, hd⟩ : ∃ d, x.length - nb.length = d := ⟨_, rfl⟩
      obtain ⟨c, hc⟩ : ∃ c, x.getD (x.length - 1) 0 * inv % p = c := ⟨_, rfl⟩
      have hst : rDivF p inv nb f (rAdd p q (term d c), rSub p x (rMul p (term d c) nb)) = R := by
        rw [← h5, ← hd, ← hc]
        exact (if_neg (by omega)).symm
      have e2 : IntKind.wrap .i64 ((x.length : Int) - (nb.length : Int)) = (d : Int) := by rw [wrapI _ (by omega) (by omega)]; omega
      have e3 : IntKind.wrap .i64 ((d : Int) + 1) = ((d + 1 : Nat) : Int) := by rw [wrapI _ (by omega) (by omega)]; rfl
      have e4 : IntKind.wrap .i64 ((x.length : Int) - 1) = ((x.length - 1 : Nat) : Int) := by rw [wrapI _ (by omega) (by omega)]; omega
      have lt1 := length_term d c
      have lm : (rMul p (term d c) nb).length ≤ d + 1 + nb.length := by
        have h7 := length_normN p (oneN p (term d c) nb)
        have h8 := length_oneN p (term d c) nb
        have h7 : (rMul p (term d c) nb).length ≤ (oneN p (term d c) nb).length := h7
        omega
      have lq := length_rAdd p q (term d c)
      have hzx := Nz.rSub (by omega : 0 < p) x (rMul p (term d c) nb)
      have hshort := rStep_len (by omega : 0 < p) hb0 hcg hge hd hc
      refine ev_block ?_
      refine ev_rs [] rfl ?_ ?_
      · rw [e2, e3]
        exact ⟨⟨by omega, by omega, by omega⟩, trivial⟩
      refine ev_made 10 36 (d + 1) rfl rfl (show (IntKind.wrap .i64 (IntKind.wrap .i64 ((x.length : Int) - (nb.length : Int)) + 1)).toNat = _ by rw [e2, e3]; rfl) ?_
      have hrl : (List.replicate (d + 1) 0).length = d + 1 := List.length_replicate
      refine ev_rs [u64 c] rfl ?_ ?_
      · rw [e2, e4]
        refine ⟨(by rw [hrl]; omega : d + 1 ≤ (List.replicate (d + 1) 0).length), ⟨by omega, by omega⟩, .inl ?_, (by omega : x.length - 1 < x.length), ⟨by omega, (by omega : ((x.length - 1 : Nat) : Int) < (x.length : Int))⟩, trivial⟩
        rw [← hc]
        exact RefMul_spec hm _ _ (by omega)
      refine ev_set 36 d c rfl (by show (IntKind.wrap .i64 ((x.length : Int) - (nb.length : Int))).toNat = _; rw [e2]; rfl) rfl (show d < (List.replicate (d + 1) 0).length by rw [hrl]; omega) ?_
      refine ev_wk (σ' := mk [(0, .p (u64s x)), (1, .p (u64s nb)), (2, .p (u64 p)), (8, .p (u64s q)), (9, .p (u64 inv)), (10, .p (u64s (term d c)))] []) (wk (fun i => i) ⟨le_0, le_0, le_0, le_0, le_0, le_fz' rfl lt1.symm rfl, trivial⟩ trivial rfl) ?_
      refine ev_rs [u64s (rAdd p q (term d c))] rfl ⟨.inl (RAdd_spec hm q (term d c) (by omega) (by omega)), trivial⟩ ?_
      exact ev_region [u64s (rMul p (term d c) nb), u64s (rSub p x (rMul p (term d c) nb))] rfl ⟨.inl (RSub_spec hm x _ (by omega) (by omega)), .inl (RMul_spec hm (term d c) nb (by omega) (by omega) (nz_w64 hm hnb)), trivial⟩
        (round0 (f, rAdd p q (term d c), rSub p x (rMul p (term d c) nb)) ⟨by dsimp only; omega, hzx, by dsimp only; omega, by dsimp only; omega, hst, fun e => by dsimp only at e ⊢; omega⟩ (Nat.lt_succ_self f) ⟨le_0, le_0, le_0, le_0, le_0, trivial⟩)
    · have hlt : x.length < nb.length := by
        have := of_decide_eq_false h
        dsimp only at this
        omega
      have h5 : (q, x) = R := by
        rw [← h5]
        cases f with
        | zero => rfl
        | succ f => exact (if_pos hlt).symm
      exact at0 () trivial ⟨le_e (congrArg (fun s : List Nat × List Nat => u64s s.2) h5), le_e (congrArg (fun s : List Nat × List Nat => u64s s.1) h5), trivial⟩
  rintro ⟨⟩ -
  exact ev_rs [] rfl trivial (ev_ret (ret2 (fz_p (PLe.refl _)) (fz_p (PLe.refl _))))

end Go.Proofs
