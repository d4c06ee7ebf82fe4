/- The reference of upoly, walked. -/
import Derived.Test.YtmpfgaebmdbdeaaGreatDoorHalf
import Derived.Test.YtmpfgaebmdbdeaaGreatDoorVincUg
set_option linter.unusedVariables false
namespace Go.Proofs
open Go Vinc Vinc.Num

theorem tabL_scale (p : Nat) (a : List Nat) (x : Nat) : tabL (fun i => a.getD i 0 * x % p) a.length = scaleL p a x := by
  refine list_eq (by simp [tabL, scaleL]) fun j hj => ?_
  have hj : j < a.length := by simpa [tabL] using hj
  rw [getD_tabL, if_pos hj]
  unfold scaleL
  simp [List.getD_eq_getElem?_getD, hj]

theorem tabL_map (p : Nat) (a : List Nat) : tabL (fun i => a.getD i 0 % p) a.length = a.map (· % p) := by
  refine list_eq (by simp [tabL]) fun j hj => ?_
  have hj : j < a.length := by simpa [tabL] using hj
  rw [getD_tabL, if_pos hj]
  simp [List.getD_eq_getElem?_getD, hj]

theorem length_tabL (f : Nat → Nat) (n : Nat) : (tabL f n).length = n := by simp [tabL]

theorem RNorm_spec {p : Nat} (hm : MayM p) (a : List Nat) (hl : a.length < 1000000) : CallSpec Tryz.pr.P Tryz.pr.G 36 [u64s a, u64 p] (u64s (normN p a)) := by
  have hp0 := hm.1
  obtain ⟨ms, hms⟩ : ∃ ms, a.map (· % p) = ms := ⟨_, rfl⟩
  have hml : ms.length = a.length := by rw [← hms, List.length_map]
  obtain ⟨f, hf⟩ : ∃ f : Nat → Nat, f = fun i => a.getD i 0 % p := ⟨_, rfl⟩
  have hall : tabL f a.length = ms := by rw [hf, tabL_map, hms]
  have hN : normN p a = ms.take (trimL ms ms.length) := by unfold normN trimN; rw [hms]
  rw [hN]
  refine callSpec_of Tryz.pr Tryz.func36 rfl rfl rfl fun w0 ok0 hok hG => ?_
  refine ev_rs [] rfl trivial ?_
  refine ev_rs [] rfl trivial (ev_nilown 5 5 rfl rfl ?_)
  refine ev_at (α := Unit) (fun _ => True) (fun _ => [(5, .p (u64s ms))]) (fun _ => []) ?_ ?_
  · refine ev_rs [] rfl trivial ?_
    refine ev_block (ev_while (α := Nat) (fun i => i ≤ a.length) (fun i => [(0, .p (u64s a)), (1, .p (u64 p)), (5, .own 5 0 i 1), (6, .p (i64 i))]) (fun i => [(5, ob64 (tabL f i))]) (fun i => a.length - i) 0
      (Nat.zero_le _) (wk_ob rfl (fun hd => ⟨le_refl hd _, le_refl hd _, le_o rfl, le_refl hd _, trivial⟩)) ?_)
    rintro i h1
    refine ev_seq (ev_rs [] rfl trivial (ev_cond rfl (fun h => ev_sk ?_) (fun h => ev_exit ?_)))
    · have hi : i < a.length := Int.ofNat_lt.mp (of_decide_eq_true h)
      have htl := length_tabL f i
      have hfi : f i = a.getD i 0 % p := by rw [hf]
      refine ev_seq (ev_block ?_)
      refine ev_region [] rfl ?_ (ev_app 5 21 (tabL f i) [f i] rfl rfl (by rw [htl]; rfl) (by show i + 1 = _; rw [htl]; rfl) htl.symm (fun j hj => rfl) (fun j hj => ?_) ?_)
      · exact ⟨⟨by omega, htl, Nat.le_refl 1⟩, by simp; omega, hi, ⟨by omega, by omega⟩, trivial⟩
      · match j, hj with
        | 0, _ => rw [hfi]; rfl
      have hst : tabL f i ++ [f i] = tabL f (i + 1) := (tabL_snoc f i).symm
      exact ev_region [] rfl trivial ⟨i + 1, hi, by dsimp only; omega, wk_ren (i' := 21) (congrArg (fun l => some (ob64 l)) hst) (fun hd => ⟨le_refl hd _, le_refl hd _, le_ren rfl (by rw [hst, length_tabL]), le_n hd (congrArg (fun z => PV.val (.int .i64 z)) (wrapI _ (by omega) (by omega))), trivial⟩)⟩
    · have hi : i = a.length := by
        have := of_decide_eq_false h
        omega
      subst hi
      exact at0 () trivial ⟨le_fz' rfl (length_tabL f a.length).symm hall, trivial⟩
  rintro ⟨⟩ -
  have ht := trimL_le ms ms.length
  refine ev_at (α := Unit) (fun _ => True) (fun _ => [(5, .p (.sl (trimL ms ms.length) 1 (fun j => u64 (ms.getD j 0))))]) (fun _ => []) ?_ ?_
  · refine ev_block (ev_while0 (α := Nat) (fun n => n ≤ ms.length ∧ trimL ms n = trimL ms ms.length) (fun n => [(5, .p (.sl n 1 (fun j => u64 (ms.getD j 0))))]) (fun n => n) ms.length ⟨Nat.le_refl _, rfl⟩ ⟨le_0, trivial⟩ ?_)
    rintro n ⟨h1, h2⟩
    cases n with
    | zero =>
      exact ev_seq (ev_rs [] rfl (by repeat' (first | exact trivial | exact gd_t | exact gd_f | exact fun h => absurd h (by decide) | exact (fun _ => rfl) | intro _ | apply And.intro | assumption | exact rfl | exact gd_t (by assumption) | exact gd_f (by assumption) | exact gd_a (by assumption) (by assumption))) (ev_cf rfl (ev_exit (at0 () trivial ⟨le_e (congrArg (fun z : Nat => PV.sl z 1 (fun j => u64 (ms.getD j 0))) h2), trivial⟩))))
    | succ n =>
      have e1 : IntKind.wrap .i64 (((n + 1 : Nat) : Int) - 1) = (n : Int) := by rw [wrapI _ (by omega) (by omega)]; omega
      have hpos : decide (((n + 1 : Nat) : Int) > 0) = true := decide_eq_true (by omega)
      have hn1 : n < n + 1 := Nat.lt_succ_self n
      refine ev_seq (ev_rs [] rfl ?_ (ev_cond rfl (fun h => ev_sk ?_) (fun h => ev_exit ?_)))
      · rw [e1]
        exact (by repeat' (first | exact trivial | exact gd_t | exact gd_f | exact hn1 | exact Int.natCast_nonneg _ | exact Int.ofNat_lt.mpr hn1 | exact (fun _ => rfl) | intro _ | apply And.intro | assumption | exact rfl | exact gd_t (by assumption) | exact gd_f (by assumption) | exact gd_a (by assumption) (by assumption)))
      · rw [hpos, e1] at h
        have h0 : ms.getD n 0 = 0 := Int.ofNat_inj.mp (beq_iff_eq.mp h)
        refine ev_block (ev_region [] rfl ?_ (round0 n ⟨by omega, ?_⟩ (Nat.lt_succ_self n) ⟨le_e (congrArg (fun z : Int => PV.sl z.toNat 1 (fun j => u64 (ms.getD j 0))) e1), trivial⟩))
        · rw [e1]
          exact ⟨⟨by omega, by omega⟩, trivial⟩
        rw [← h2]
        show _ = if ms.getD n 0 = 0 then trimL ms n else n + 1
        rw [if_pos h0]
      · rw [hpos, e1] at h
        have h0 : ¬ ms.getD n 0 = 0 := fun e => (beq_eq_false_iff_ne.mp h) (Int.ofNat_inj.mpr e)
        refine at0 () trivial ⟨le_e (congrArg (fun z : Nat => PV.sl z 1 (fun j => u64 (ms.getD j 0))) ?_), trivial⟩
        rw [← h2]
        show _ = if ms.getD n 0 = 0 then trimL ms n else n + 1
        rw [if_neg h0]
  rintro ⟨⟩ -
  exact ev_rs [] rfl trivial (ev_ret (ret1 (fz_p (PLe.take ht))))

theorem length_normN (p : Nat) (a : List Nat) : (normN p a).length ≤ a.length := by
  unfold normN
  rw [length_trimN]
  have := trimL_le (a.map (· % p)) (a.map (· % p)).length
  rw [List.length_map] at this ⊢
  exact this

theorem length_rAdd (p : Nat) (a b : List Nat) : (rAdd p a b).length ≤ max a.length b.length := by
  have := length_normN p (addL p a b)
  rwa [length_addL] at this

theorem length_rSub (p : Nat) (a b : List Nat) : (rSub p a b).length ≤ max a.length b.length := by
  have h1 := length_rAdd p a (rScale p b (p - 1))
  have h2 := length_normN p (scaleL p b (p - 1))
  rw [length_scaleL] at h2
  have h1 : (rSub p a b).length ≤ max a.length (rScale p b (p - 1)).length := h1
  have h2 : (rScale p b (p - 1)).length ≤ b.length := h2
  omega

def W64 (xs : List Nat) : Prop := ∀ j, xs.getD j 0 < 18446744073709551616

theorem Mul06_spec {p : Nat} (hm : MayM p) (a b : List Nat) (hl : a.length < 100000) (hl2 : b.length < 100000) (hw : W64 b) : CallSpec Tryz.pr.P Tryz.pr.G 37 [u64s a, u64s b, u64 p] (u64s (oneN p a b)) := by
  refine callSpec_of Tryz.pr Tryz.func37 rfl rfl rfl fun w0 ok0 hok hG => ?_
  refine ev_rs [] rfl trivial ?_
  refine ev_seq (ev_rs [] rfl (by repeat' (first | exact trivial | exact gd_t | exact gd_f | exact (fun _ => rfl) | intro _ | apply And.intro | assumption | exact rfl | exact gd_t (by assumption) | exact gd_f (by assumption) | exact gd_a (by assumption) (by assumption))) (ev_cond rfl (fun h => ?_) (fun h => ev_sk ?_)))
  · have h0 : a.length = 0 ∨ b.length = 0 := by
      by_cases ha : a.length = 0
      · exact .inl ha
      · right
        have e : (((a.length : Nat) : Int) == 0) = false := beq_eq_false_iff_ne.mpr (by omega)
        rw [e] at h
        exact Int.ofNat_inj.mp (beq_iff_eq.mp h)
    have e : oneN p a b = [] := if_pos h0
    rw [e]
    exact ev_rs [] rfl trivial (ev_ret (ret1 (fz_p PLe.nil)))
  have h0 : ¬ (a.length = 0 ∨ b.length = 0) := by
    rintro (e | e)
    · rw [e] at h; cases h
    · rw [e] at h
      cases hd : (((a.length : Nat) : Int) == 0) <;> rw [hd] at h <;> cases h
  have e0 : oneN p a b = oneO p a b a.length := if_neg h0
  rw [e0]
  have e1 : IntKind.wrap .i64 (IntKind.wrap .i64 ((a.length : Int) + (b.length : Int)) - 1) = ((a.length + b.length - 1 : Nat) : Int) := by
    rw [wrapI ((a.length : Int) + (b.length : Int)) (by omega) (by omega), wrapI _ (by omega) (by omega)]; omega
  obtain ⟨L, hL⟩ : ∃ L, a.length + b.length - 1 = L := ⟨_, rfl⟩
  refine ev_rs [] rfl ?_ ?_
  · rw [e1]
    exact ⟨⟨by omega, by omega, by omega⟩, trivial⟩
  refine ev_made 7 24 L rfl rfl (show (IntKind.wrap .i64 (IntKind.wrap .i64 ((a.length : Int) + (b.length : Int)) - 1)).toNat = _ by rw [e1]; exact hL) ?_
  refine ev_at (α := Unit) (fun _ => True) (fun _ => [(7, .own 24 0 L 1)]) (fun _ => [(24, ob64 (oneO p a b a.length))]) ?_ ?_
  · refine ev_rs [] rfl trivial ?_
    refine ev_block (ev_while (α := Nat) (fun i => i ≤ a.length) (fun i => [(0, .p (u64s a)), (1, .p (u64s b)), (2, .p (u64 p)), (7, .own 24 0 L 1), (8, .p (i64 i))]) (fun i => [(24, ob64 (oneO p a b i))]) (fun i => a.length - i) 0
      (Nat.zero_le _) (wk_ob (congrArg (fun l => some (ob64 (List.replicate l 0))) hL.symm) (fun hd => ⟨le_refl hd _, le_refl hd _, le_refl hd _, le_o rfl, le_refl hd _, trivial⟩)) ?_)
    rintro i h1
    refine ev_seq (ev_rs [] rfl trivial (ev_cond rfl (fun h => ev_sk ?_) (fun h => ev_exit ?_)))
    · have hi : i < a.length := Int.ofNat_lt.mp (of_decide_eq_true h)
      refine ev_seq (ev_block ?_)
      refine ev_rs [] rfl trivial ?_
      refine ev_block (ev_while (α := Nat) (fun k => k ≤ b.length) (fun k => [(0, .p (u64s a)), (1, .p (u64s b)), (2, .p (u64 p)), (7, .own 24 0 L 1), (8, .p (i64 i)), (9, .p (i64 k))])
        (fun k => [(24, ob64 (oneI p (a.getD i 0) b i (oneO p a b i) k))]) (fun k => b.length - k) 0
        (Nat.zero_le _) (wk_ob rfl (fun hd => ⟨le_refl hd _, le_refl hd _, le_refl hd _, le_o rfl, le_refl hd _, le_refl hd _, trivial⟩)) ?_)
      rintro k h2
      refine ev_seq (ev_rs [] rfl trivial (ev_cond rfl (fun h => ev_sk ?_) (fun h => ev_exit ?_)))
      · have hk : k < b.length := Int.ofNat_lt.mp (of_decide_eq_true h)
        refine ev_seq (ev_block ?_)
        have e2 : IntKind.wrap .i64 ((i : Int) + (k : Int)) = ((i + k : Nat) : Int) := by rw [wrapI _ (by omega) (by omega)]; rfl
        have hck : (oneI p (a.getD i 0) b i (oneO p a b i) k).length = L := by rw [length_oneI, length_oneO, hL]
        obtain ⟨o, ho⟩ : ∃ o, oneI p (a.getD i 0) b i (oneO p a b i) k = o := ⟨_, rfl⟩
        have hst : oneI p (a.getD i 0) b i (oneO p a b i) (k + 1) = o.set (i + k) ((o.getD (i + k) 0 + a.getD i 0 * b.getD k 0 % p) % p) := by rw [← ho]; rfl
        rw [ho] at hck
        refine ev_ob 24 (ob64 o) (congrArg (fun l => some (ob64 l)) ho) ?_
        refine ev_draw [u64 (a.getD i 0 * b.getD k 0 % p), u64 ((o.getD (i + k) 0 + a.getD i 0 * b.getD k 0 % p) % p)] (by kernel_rfl) rfl rfl ?_ ?_
        · rw [e2]
          exact ⟨(by omega : i + k + 1 ≤ o.length), ⟨by omega, by omega⟩, .inl (RefAdd_spec hm _ _), .inl (RefMul_spec hm _ _ (hw k)), hk, ⟨by omega, by omega⟩, hi, ⟨by omega, by omega⟩, (by omega : i + k < o.length), ⟨by omega, by omega⟩, trivial⟩
        refine ev_set 24 (i + k) ((o.getD (i + k) 0 + a.getD i 0 * b.getD k 0 % p) % p) rfl (by show (IntKind.wrap .i64 ((i : Int) + (k : Int))).toNat = _; rw [e2]; rfl) rfl (by omega) ?_
        exact ev_region [] rfl trivial ⟨k + 1, hk, by dsimp only; omega, wk_ob (congrArg (fun l => some (ob64 l)) hst.symm) (fun hd => ⟨le_refl hd _, le_refl hd _, le_refl hd _, le_o rfl, le_refl hd _, le_n hd (congrArg (fun z => PV.val (.int .i64 z)) (wrapI _ (by omega) (by omega))), trivial⟩)⟩
      · have hk : k = b.length := by
          have := of_decide_eq_false h
          omega
        subst hk
        exact ev_region [] rfl trivial ⟨i + 1, hi, by dsimp only; omega, wk_ob rfl (fun hd => ⟨le_refl hd _, le_refl hd _, le_refl hd _, le_o rfl, le_n hd (congrArg (fun z => PV.val (.int .i64 z)) (wrapI _ (by omega) (by omega))), trivial⟩)⟩
    · have hi : i = a.length := by
        have := of_decide_eq_false h
        omega
      subst hi
      exact at_ob () trivial rfl (fun hd => ⟨le_o rfl, trivial⟩)
  rintro ⟨⟩ -
  exact ev_rs [] rfl trivial (ev_ret (ret1 (fz_ob' rfl (by rw [length_oneO, hL]) rfl)))

theorem RMul_spec {p : Nat} (hm : MayM p) (a b : List Nat) (hl : a.length < 100000) (hl2 : b.length < 100000) (hw : W64 b) : CallSpec Tryz.pr.P Tryz.pr.G 14 [u64s a, u64s b, u64 p] (u64s (rMul p a b)) := by
  refine callSpec_of Tryz.pr Tryz.func14 rfl rfl rfl fun w0 ok0 hok hG => ?_
  refine ev_rs [] rfl trivial ?_
  have := length_oneN p a b
  exact ev_rs [u64s (oneN p a b), u64s (rMul p a b)] rfl ⟨.inl (RNorm_spec hm (oneN p a b) (by omega)), .inl (Mul06_spec hm a b hl hl2 hw), trivial⟩ (ev_ret (ret1 (fz_p (PLe.refl _))))

theorem nz_w64 {p : Nat} (hm : MayM p) {a : List Nat} (h : Nz p a) : W64 a := fun j => by
  have h1 := h.lt j
  have h2 := hm.2
  omega

theorem length_term (d c : Nat) : (term d c).length = d + 1 := by simp [term]

end Go.Proofs
