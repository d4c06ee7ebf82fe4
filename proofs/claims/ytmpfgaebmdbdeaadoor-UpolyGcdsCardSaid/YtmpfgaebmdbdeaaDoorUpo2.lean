/- Polynomials over a field of words, walked: derivatives, values, powers, the two polynomials. -/
import Derived.Test.YtmpfgaebmdbdeaaDoorUpo
set_option linter.unusedVariables false
namespace Go.Proofs
open Go Vinc Vinc.Num

theorem Derive_spec {p : Nat} (hm : MayM p) (a : List Nat) (hl : a.length < 100000) : CallSpec Tryd.pr.P Tryd.pr.G 20 [polyF p, u64s a] (u64s (deriveN p a)) := by
  refine callSpec_of Tryd.pr Tryd.func20 rfl rfl rfl fun w0 ok0 hok hG => ?_
  refine ev_rs [] rfl trivial ?_
  refine ev_seq (ev_rs [] rfl (by repeat' (first | exact trivial | exact gd_t | exact gd_f | exact (fun _ => rfl) | intro _ | apply And.intro | assumption | exact rfl | exact gd_t (by assumption) | exact gd_f (by assumption) | exact gd_a (by assumption) (by assumption))) (ev_cond rfl (fun h => ?_) (fun h => ev_sk ?_)))
  · have h : (((a.length : Nat) : Int) == 0) = true := h
    have h0 : a.length = 0 := Int.ofNat_inj.mp (beq_iff_eq.mp h)
    have e : a = [] := List.eq_nil_of_length_eq_zero h0
    rw [e]
    exact ev_rs [] rfl trivial (ev_ret (ret1 (fz_p PLe.nil)))
  have h : (((a.length : Nat) : Int) == 0) = false := h
  have h0 : a.length ≠ 0 := fun e => (beq_eq_false_iff_ne.mp h) (congrArg (fun n : Nat => (n : Int)) e)
  obtain ⟨L, hL⟩ : ∃ L, a.length - 1 = L := ⟨_, rfl⟩
  obtain ⟨f, hf⟩ : ∃ f : Nat → Nat, f = fun i => a.getD (i + 1) 0 * (i + 1) % p := ⟨_, rfl⟩
  have hD : deriveN p a = trimN (tabL f L) := by rw [hf, ← hL]; rfl
  rw [hD]
  have e1 : IntKind.wrap .i64 ((a.length : Int) - 1) = (L : Int) := by rw [wrapI _ (by omega) (by omega)]; omega
  refine ev_rs [] rfl ?_ ?_
  · rw [e1]
    exact ⟨⟨by omega, by omega, by omega⟩, trivial⟩
  refine ev_made 5 17 L rfl rfl (show (IntKind.wrap .i64 ((a.length : Int) - 1)).toNat = _ by rw [e1]; rfl) ?_
  refine ev_at (α := Unit) (fun _ => True) (fun _ => [(5, .p (u64s (tabL f L)))]) (fun _ => []) ?_ ?_
  · refine ev_rs [] rfl trivial ?_
    refine ev_block (ev_while (α := Nat) (fun i => i ≤ L) (fun i => [(0, .p (polyF p)), (1, .p (u64s a)), (5, .own 17 0 L 1), (19, .p (i64 L)), (20, .p (i64 i))]) (fun i => [(17, ob64 (tabK f L i))]) (fun i => L - i) 0
      (Nat.zero_le _) (wk_ob rfl (fun hd => ⟨le_refl hd _, le_refl hd _, le_o rfl, le_refl hd _, le_refl hd _, trivial⟩)) ?_)
    rintro i h1
    refine ev_rs [] rfl trivial (ev_seq (ev_cond rfl (fun h => ev_sk ?_) (fun h => ev_exit ?_)))
    · have hi : i < L := Int.ofNat_lt.mp (of_decide_eq_true h)
      have hck := length_tabK f L i
      have hfi : f i = a.getD (i + 1) 0 * (i + 1) % p := by rw [hf]
      have e2 : IntKind.wrap .i64 ((i : Int) + 1) = ((i + 1 : Nat) : Int) := by rw [wrapI _ (by omega) (by omega)]; rfl
      have e3 : IntKind.wrap .u64 ((i + 1 : Nat) : Int) = ((i + 1 : Nat) : Int) := by rw [wrapN, Nat.mod_eq_of_lt (by omega)]
      refine ev_seq (ev_block ?_)
      refine ev_rs [] rfl trivial ?_
      refine ev_draw [u64 (f i)] (by kernel_rfl) rfl rfl ?_ ?_
      · rw [e2, e3, hfi]
        exact ⟨(by omega : i + 1 ≤ (tabK f L i).length), ⟨by omega, by omega⟩, .inl (Mul_spec hm _ _), (by omega : i + 1 < a.length), ⟨by omega, by omega⟩, Nat.zero_lt_one, trivial⟩
      refine ev_set 17 i (f i) rfl rfl rfl (by omega) ?_
      exact ev_region [] rfl trivial ⟨i + 1, hi, by dsimp only; omega, wk_ob rfl (fun hd => ⟨le_refl hd _, le_refl hd _, le_o rfl, le_refl hd _, le_n hd (congrArg (fun z => PV.val (.int .i64 z)) (wrapI _ (by omega) (by omega))), trivial⟩)⟩
    · have hi : i = L := by
        have := of_decide_eq_false h
        omega
      subst hi
      exact at0 () trivial ⟨le_fz' rfl (length_tabK f i i).symm (tabK_all f i), trivial⟩
  rintro ⟨⟩ -
  exact ev_rs [u64s (trimN (tabL f L))] rfl ⟨.inl (trim_spec _ (by rw [length_tabL]; omega)), trivial⟩ (ev_ret (ret1 (fz_p (PLe.refl _))))

theorem RDerive_spec {p : Nat} (hm : MayM p) (a : List Nat) (hl : a.length < 100000) : CallSpec Tryd.pr.P Tryd.pr.G 21 [u64s a, u64 p] (u64s (deriveN p a)) := by
  have hp0 := hm.1
  obtain ⟨L, hL⟩ : ∃ L, a.length - 1 = L := ⟨_, rfl⟩
  obtain ⟨f, hf⟩ : ∃ f : Nat → Nat, f = fun i => a.getD (i + 1) 0 * (i + 1) % p := ⟨_, rfl⟩
  have hlt : ∀ j, (tabL f L).getD j 0 < p := fun j => by
    rw [getD_tabL]
    split
    · rw [hf]; exact Nat.mod_lt _ (by omega)
    · omega
  have hD : deriveN p a = normN p (tabL f L) := by
    rw [Nz.norm_eq hlt (by omega), hf, ← hL]; rfl
  rw [hD]
  refine callSpec_of Tryd.pr Tryd.func21 rfl rfl rfl fun w0 ok0 hok hG => ?_
  refine ev_rs [] rfl trivial ?_
  refine ev_rs [] rfl trivial (ev_nilown 5 5 rfl rfl ?_)
  refine ev_at (α := Unit) (fun _ => True) (fun _ => [(1, .p (u64 p)), (5, .p (u64s (tabL f L)))]) (fun _ => []) ?_ ?_
  · refine ev_rs [] rfl trivial ?_
    refine ev_block (ev_while (α := Nat) (fun i => i ≤ L) (fun i => [(0, .p (u64s a)), (1, .p (u64 p)), (5, .own 5 0 i 1), (6, .p (i64 ((i + 1 : Nat) : Int)))]) (fun i => [(5, ob64 (tabL f i))]) (fun i => L - i) 0
      (Nat.zero_le _) (wk_ob rfl (fun hd => ⟨le_refl hd _, le_refl hd _, le_o rfl, le_refl hd _, trivial⟩)) ?_)
    rintro i h1
    refine ev_seq (ev_rs [] rfl trivial (ev_cond rfl (fun h => ev_sk ?_) (fun h => ev_exit ?_)))
    · have hi : i + 1 < a.length := Int.ofNat_lt.mp (of_decide_eq_true h)
      have htl := length_tabL f i
      have hfi : f i = a.getD (i + 1) 0 * (i + 1) % p := by rw [hf]
      have e3 : IntKind.wrap .u64 ((i + 1 : Nat) : Int) = ((i + 1 : Nat) : Int) := by rw [wrapN, Nat.mod_eq_of_lt (by omega)]
      refine ev_seq (ev_block ?_)
      refine ev_region [u64 (f i)] rfl ?_ (ev_app 5 23 (tabL f i) [f i] rfl rfl (by rw [htl]; rfl) (by show i + 1 = _; rw [htl]; rfl) htl.symm (fun j hj => rfl) (fun j hj => ?_) ?_)
      · rw [e3, hfi]
        exact ⟨⟨by omega, htl, Nat.le_refl 1⟩, .inl (RefMul_spec hm _ _ (by omega)), hi, ⟨by omega, by omega⟩, trivial⟩
      · match j, hj with
        | 0, _ => rfl
      have hst : tabL f i ++ [f i] = tabL f (i + 1) := (tabL_snoc f i).symm
      exact ev_region [] rfl trivial ⟨i + 1, by omega, by dsimp only; omega, wk_ren (i' := 23) (congrArg (fun l => some (ob64 l)) hst) (fun hd => ⟨le_refl hd _, le_refl hd _, le_ren rfl (by rw [hst, length_tabL]), le_n hd (congrArg (fun z => PV.val (.int .i64 z)) (wrapI _ (by omega) (by omega))), trivial⟩)⟩
    · have hi : i = L := by
        have := of_decide_eq_false h
        omega
      subst hi
      exact at0 () trivial ⟨le_refl (fun k hk => by cases hk) _, le_fz' rfl (length_tabL f i).symm rfl, trivial⟩
  rintro ⟨⟩ -
  exact ev_rs [u64s (normN p (tabL f L))] rfl ⟨.inl (RNorm_spec hm _ (by rw [length_tabL]; omega)), trivial⟩ (ev_ret (ret1 (fz_p (PLe.refl _))))

theorem Eval_spec {p : Nat} (hm : MayM p) (a : List Nat) (x : Nat) (hl : a.length < 100000) : CallSpec Tryd.pr.P Tryd.pr.G 28 [polyF p, u64s a, u64 x] (u64 (evalF p x a a.length)) := by
  refine callSpec_of Tryd.pr Tryd.func28 rfl rfl rfl fun w0 ok0 hok hG => ?_
  refine ev_rs [] rfl trivial ?_
  refine ev_seq (ev_rs [] rfl trivial (ev_cf rfl (ev_sk ?_)))
  refine ev_rs [] rfl trivial ?_
  refine ev_at (α := Unit) (fun _ => True) (fun _ => [(7, .p (u64 (evalF p x a a.length)))]) (fun _ => []) ?_ ?_
  · refine ev_rs [] rfl trivial ?_
    refine ev_block (ev_while0 (α := Nat) (fun n => n ≤ a.length) (fun n => [(0, .p (polyF p)), (1, .p (u64s a)), (2, .p (u64 x)), (7, .p (u64 (evalF p x a n))), (8, .p (i64 ((a.length : Int) - 1 - n)))]) (fun n => a.length - n) 0
      (Nat.zero_le _) ⟨le_0, le_0, le_0, le_0, le_e (congrArg (fun z => PV.val (.int .i64 z)) (by rw [wrapI _ (by omega) (by omega)]; omega)), trivial⟩ ?_)
    rintro n h1
    refine ev_seq (ev_rs [] rfl trivial (ev_cond rfl (fun h => ev_sk ?_) (fun h => ev_exit ?_)))
    · have hn : n < a.length := by
        have := of_decide_eq_true h
        omega
      obtain ⟨i, hi⟩ : ∃ i, a.length - 1 - n = i := ⟨_, rfl⟩
      have hst : evalF p x a (n + 1) = (evalF p x a n * x % p + a.getD i 0) % p := by rw [← hi]; rfl
      refine ev_eq 8 (.p (i64 i)) (congrArg (fun z => AV.p (PV.val (.int .i64 z))) (by omega : (a.length : Int) - 1 - n = i)) ?_
      refine ev_seq (ev_block ?_)
      refine ev_draw [u64 (evalF p x a n * x % p), u64 (evalF p x a (n + 1))] (by kernel_rfl) rfl rfl ?_ ?_
      · rw [hst]
        exact ⟨.inl (Add_spec hm _ _), (by omega : i < a.length), ⟨by omega, by omega⟩, .inl (Mul_spec hm _ _), Nat.zero_lt_one, Nat.zero_lt_one, trivial⟩
      exact ev_region [] rfl trivial (round0 (n + 1) hn (by omega) ⟨le_0, le_0, le_0, le_0, le_e (congrArg (fun z => PV.val (.int .i64 z)) (by rw [wrapI _ (by omega) (by omega)]; omega)), trivial⟩)
    · have hn : n = a.length := by
        have := of_decide_eq_false h
        omega
      subst hn
      exact at0 () trivial ⟨le_0, trivial⟩
  rintro ⟨⟩ -
  exact ev_rs [] rfl trivial (ev_ret (ret1 (fz_p (PLe.refl _))))

theorem Value_spec {p : Nat} (hm : MayM p) (a : List Nat) (x : Nat) (hl : a.length < 100000) (hx : x < 18446744073709551616) : CallSpec Tryd.pr.P Tryd.pr.G 29 [u64s a, u64 x, u64 p] (u64 (evalF p x a a.length)) := by
  refine callSpec_of Tryd.pr Tryd.func29 rfl rfl rfl fun w0 ok0 hok hG => ?_
  refine ev_rs [] rfl trivial ?_
  refine ev_rs [] rfl trivial ?_
  refine ev_at (α := Unit) (fun _ => True) (fun _ => [(7, .p (u64 (evalF p x a a.length)))]) (fun _ => []) ?_ ?_
  · refine ev_rs [] rfl trivial ?_
    refine ev_block (ev_while0 (α := Nat) (fun n => n ≤ a.length) (fun n => [(0, .p (u64s a)), (1, .p (u64 x)), (2, .p (u64 p)), (7, .p (u64 (evalF p x a n))), (8, .p (i64 ((a.length : Int) - 1 - n)))]) (fun n => a.length - n) 0
      (Nat.zero_le _) ⟨le_0, le_0, le_0, le_0, le_e (congrArg (fun z => PV.val (.int .i64 z)) (by rw [wrapI _ (by omega) (by omega)]; omega)), trivial⟩ ?_)
    rintro n h1
    refine ev_seq (ev_rs [] rfl trivial (ev_cond rfl (fun h => ev_sk ?_) (fun h => ev_exit ?_)))
    · have hn : n < a.length := by
        have := of_decide_eq_true h
        omega
      obtain ⟨i, hi⟩ : ∃ i, a.length - 1 - n = i := ⟨_, rfl⟩
      have hst : evalF p x a (n + 1) = (evalF p x a n * x % p + a.getD i 0) % p := by rw [← hi]; rfl
      refine ev_eq 8 (.p (i64 i)) (congrArg (fun z => AV.p (PV.val (.int .i64 z))) (by omega : (a.length : Int) - 1 - n = i)) ?_
      refine ev_seq (ev_block ?_)
      refine ev_draw [u64 (evalF p x a n * x % p), u64 (evalF p x a (n + 1))] (by kernel_rfl) rfl rfl ?_ ?_
      · rw [hst]
        exact ⟨.inl (RefAdd_spec hm _ _), (by omega : i < a.length), ⟨by omega, by omega⟩, .inl (RefMul_spec hm _ _ hx), trivial⟩
      exact ev_region [] rfl trivial (round0 (n + 1) hn (by omega) ⟨le_0, le_0, le_0, le_0, le_e (congrArg (fun z => PV.val (.int .i64 z)) (by rw [wrapI _ (by omega) (by omega)]; omega)), trivial⟩)
    · have hn : n = a.length := by
        have := of_decide_eq_false h
        omega
      subst hn
      exact at0 () trivial ⟨le_0, trivial⟩
  rintro ⟨⟩ -
  exact ev_rs [] rfl trivial (ev_ret (ret1 (fz_p (PLe.refl _))))

theorem PowMod_zero {p : Nat} (hm : MayM p) (a : List Nat) (n : Nat) (b : List Nat) (hl : a.length < 100000) (hl2 : b.length < 100000) (hb0 : (normN p b).length = 0) :
    CallSpec Tryd.pr.P Tryd.pr.G 30 [polyF p, u64s a, u64 n, u64s b] (.tup 2 (two nilS (i64 10))) := by
  refine callSpec_of Tryd.pr Tryd.func30 rfl rfl rfl fun w0 ok0 hok hG => ?_
  refine ev_rs [] rfl trivial ?_
  refine ev_seq (ev_rs [] rfl trivial (ev_cf rfl (ev_sk ?_)))
  refine ev_rs [u64s (normN p a), u64s (normN p b)] rfl ⟨.inl (Norm_spec hm b (by omega)), .inl (Norm_spec hm a (by omega)), trivial⟩ ?_
  refine ev_seq (ev_rs [] rfl trivial (ev_cond rfl (fun h => ?_) (fun h => ?_)))
  · exact ev_rs [] rfl trivial (ev_ret (ret2 (fz_p (PLe.refl _)) (fz_p (PLe.refl _))))
  · exact absurd (congrArg (fun n : Nat => (n : Int)) hb0) (beq_eq_false_iff_ne.mp h)

theorem RPowMod_spec {p : Nat} (hm : MayM p) (hf : FdP p (minv p)) (a : List Nat) (n : Nat) (b : List Nat) (hn : n < 18446744073709551616) (hl : a.length < 1000) (hl2 : b.length < 1000) (hb0 : 0 < (normN p b).length) :
    CallSpec Tryd.pr.P Tryd.pr.G 31 [u64s a, u64 n, u64s b, u64 p]
      (u64s (powF (minv p) p (normN p b) 64 n (remN (minv p) p [1] (normN p b)) (remN (minv p) p (normN p a) (normN p b)))) := by
  have hp0 : 0 < p := hf.pos
  have hp2 := hm.2
  have la := length_normN p a
  have lb := length_normN p b
  have hna := Nz.norm hp0 a
  have hnb := Nz.norm hp0 b
  have h1n : normN p [1] = [1] := (Nz.one hf.prime.1).norm_id hp0
  have hD : ∀ x : List Nat, Nz p x → x.length < 10000 → CallSpec Tryd.pr.P Tryd.pr.G 12 [u64s x, u64s b, u64 p] (.tup 2 (two (u64s (divN (minv p) p x (normN p b)).1) (u64s (remN (minv p) p x (normN p b))))) := fun x hx hxl => by
    have := RDiv_spec hm hf.prime x b hxl (by omega) hb0
    rw [hf.rdiv x b hb0, hx.norm_id hp0] at this
    exact this
  have hD2 : CallSpec Tryd.pr.P Tryd.pr.G 12 [u64s a, u64s b, u64 p] (.tup 2 (two (u64s (divN (minv p) p (normN p a) (normN p b)).1) (u64s (remN (minv p) p (normN p a) (normN p b))))) := by
    have := RDiv_spec hm hf.prime a b (by omega) (by omega) hb0
    rw [hf.rdiv a b hb0] at this
    exact this
  have hD1 := hD [1] (Nz.one hf.prime.1) (by decide)
  have ho1 := remN_nz hf (Nz.one hf.prime.1) hnb hb0
  have ha1 := remN_nz hf hna hnb hb0
  have hT : ∀ x y : List Nat, (timesN p x y).length ≤ x.length + y.length := fun x y => by
    have := timesN_len p x y
    split at this <;> omega
  have hM : ∀ x y : List Nat, x.length < 1000 → y.length < 1000 → Nz p y → CallSpec Tryd.pr.P Tryd.pr.G 38 [u64s x, u64s y, u64 p] (u64s (timesN p x y)) := fun x y h1 h2 hy => by
    have := RMul_spec hm x y (by omega) (by omega) (nz_w64 hm hy)
    rwa [rMul_eq hp0] at this
  obtain ⟨bb, hbb⟩ : ∃ bb, normN p b = bb := ⟨_, rfl⟩
  rw [hbb] at hD hD1 hD2 ho1 ha1 hnb lb hb0 ⊢
  obtain ⟨o1, eo1⟩ : ∃ o1, remN (minv p) p [1] bb = o1 := ⟨_, rfl⟩
  obtain ⟨a1, ea1⟩ : ∃ a1, remN (minv p) p (normN p a) bb = a1 := ⟨_, rfl⟩
  rw [eo1] at ho1 hD1 ⊢
  rw [ea1] at ha1 hD2 ⊢
  obtain ⟨R, hR⟩ : ∃ R, powF (minv p) p bb 64 n o1 a1 = R := ⟨_, rfl⟩
  rw [hR]
  refine callSpec_of Tryd.pr Tryd.func31 rfl rfl rfl fun w0 ok0 hok hG => ?_
  refine ev_rs [] rfl trivial ?_
  refine ev_rs [.tup 2 (two (u64s (divN (minv p) p [1] bb).1) (u64s o1))] rfl ?_ ?_
  · exact ⟨⟨⟨Nat.le_refl 1, trivial⟩, .inl (callSpec_args (as' := [u64s [1], u64s b, u64 p]) ⟨PLe.lit rfl (fun j hj => by match j, hj with | 0, _ => rfl), PLe.refl _, PLe.refl _, trivial⟩ hD1)⟩, trivial⟩
  refine ev_rs [.tup 2 (two (u64s (divN (minv p) p (normN p a) bb).1) (u64s a1))] rfl ⟨.inl hD2, trivial⟩ ?_
  refine ev_at (α := Unit) (fun _ => True) (fun _ => [(10, .p (u64s R))]) (fun _ => []) ?_ ?_
  · refine ev_block (ev_while0 (α := Nat × Nat × List Nat × List Nat) (fun s => s.2.1 < 2 ^ s.1 ∧ s.2.1 < 18446744073709551616 ∧ Nz p s.2.2.1 ∧ Nz p s.2.2.2 ∧ s.2.2.1.length < 1000 ∧ s.2.2.2.length < 1000 ∧ powF (minv p) p bb s.1 s.2.1 s.2.2.1 s.2.2.2 = R)
      (fun s => [(0, .p (u64s s.2.2.2)), (1, .p (u64 s.2.1)), (2, .p (u64s b)), (3, .p (u64 p)), (10, .p (u64s s.2.2.1))]) (fun s => s.1) (64, n, o1, a1)
      ⟨hn, hn, ho1.1, ha1.1, by have := ho1.2; dsimp only; omega, by have := ha1.2; dsimp only; omega, hR⟩ ⟨le_0, le_0, le_0, le_0, le_0, trivial⟩ ?_)
    rintro ⟨f, x, o, y⟩ ⟨h1, h2, h3, h4, h5, h6, h7⟩
    dsimp only at h1 h2 h3 h4 h5 h6 h7
    refine ev_seq (ev_rs [] rfl trivial (ev_cond rfl (fun h => ev_sk ?_) (fun h => ev_exit ?_)))
    · have hx : 0 < x := Int.ofNat_lt.mp (of_decide_eq_true h)
      have hx0 : x ≠ 0 := by omega
      obtain ⟨f, rfl⟩ : ∃ g, f = g + 1 := by
        cases f with
        | zero => simp at h1; omega
        | succ g => exact ⟨g, rfl⟩
      have h7 : (if x = 0 then o else powF (minv p) p bb f (x / 2) (if x % 2 = 1 then remN (minv p) p (timesN p o y) bb else o) (remN (minv p) p (timesN p y y) bb)) = R := h7
      rw [if_neg hx0] at h7
      have ht1 := hT o y
      have ht2 := hT y y
      have z1 := remN_nz hf (timesN_nz hp0 o y) hnb hb0
      have z2 := remN_nz hf (timesN_nz hp0 y y) hnb hb0
      refine ev_block ?_
      refine ev_at (α := Unit) (fun _ => True) (fun _ => [(0, .p (u64s y)), (1, .p (u64 x)), (2, .p (u64s b)), (3, .p (u64 p)), (10, .p (u64s (if x % 2 = 1 then remN (minv p) p (timesN p o y) bb else o)))]) (fun _ => []) ?_ ?_
      · refine ev_rs [] rfl ⟨by decide, trivial⟩ (ev_cond rfl (fun h => ?_) (fun h => ?_))
        · have hx1 : x % 2 = 1 := Int.ofNat_inj.mp (beq_iff_eq.mp h)
          refine ev_region [u64s (timesN p o y), .tup 2 (two (u64s (divN (minv p) p (timesN p o y) bb).1) (u64s (remN (minv p) p (timesN p o y) bb)))] rfl ⟨.inl (hD _ (timesN_nz hp0 o y) (by omega)), .inl (hM o y h5 h6 h4), trivial⟩ (at0 () trivial ⟨le_0, le_0, le_0, le_0, le_e (congrArg u64s ?_), trivial⟩)
          rw [if_pos hx1]
        · have hx1 : ¬ x % 2 = 1 := fun e => (beq_eq_false_iff_ne.mp h) (congrArg (fun n : Nat => (n : Int)) e)
          refine ev_skip (at0 () trivial ⟨le_0, le_0, le_0, le_0, le_e (congrArg u64s ?_), trivial⟩)
          rw [if_neg hx1]
      rintro ⟨⟩ -
      refine ev_rs [u64s (timesN p y y), .tup 2 (two (u64s (divN (minv p) p (timesN p y y) bb).1) (u64s (remN (minv p) p (timesN p y y) bb)))] rfl ⟨.inl (hD _ (timesN_nz hp0 y y) (by omega)), .inl (hM y y h6 h6 h4), trivial⟩ ?_
      refine ev_region [] rfl ⟨by decide, trivial⟩ (round0 (f, x / 2, if x % 2 = 1 then remN (minv p) p (timesN p o y) bb else o, remN (minv p) p (timesN p y y) bb) ⟨by rw [Nat.pow_succ] at h1; dsimp only; omega, by dsimp only; omega, ?_, z2.1, ?_, by have := z2.2; dsimp only; omega, h7⟩ (Nat.lt_succ_self f)
        ⟨le_0, le_e (congrArg (fun z => PV.val (.int .u64 z)) (tdivN x 2 h2)), le_0, le_0, le_0, trivial⟩)
      · dsimp only
        split
        · exact z1.1
        · exact h3
      · dsimp only
        split
        · have := z1.2; omega
        · exact h5
    · have hx : x = 0 := by
        have := of_decide_eq_false h
        dsimp only at this
        omega
      refine at0 () trivial ⟨le_e (congrArg u64s ?_), trivial⟩
      rw [hx] at h7
      cases f with
      | zero => exact h7
      | succ f => exact h7
  rintro ⟨⟩ -
  exact ev_rs [] rfl trivial (ev_ret (ret1 (fz_p (PLe.refl _))))

end Go.Proofs
