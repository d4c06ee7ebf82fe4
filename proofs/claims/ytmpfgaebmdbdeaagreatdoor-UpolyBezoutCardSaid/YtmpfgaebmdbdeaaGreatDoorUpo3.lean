/- Polynomials over a field of words, walked: divisors with their polynomials. -/
import Derived.Test.YtmpfgaebmdbdeaaGreatDoorUpo2
set_option linter.unusedVariables false
namespace Go.Proofs
open Go Vinc Vinc.Num

theorem le_lit {c : Cx} {σ : St} {l : List (Nat × AV)} {i n : Nat} {o : Ob} {xs : List Nat} (h0 : σ.h i = some o) (hn : n = xs.length) (ho : xs.length ≤ o.n) (hf : ∀ j, j < xs.length → o.f j = .p (u64 (xs.getD j 0))) :
    Le c σ (mk l []) (fun i => i) (.own i 0 n 1) (.p (u64s xs)) := by
  subst hn
  exact le_freeze ren_nil h0 (by omega) (fun k hk => by cases hk) (fun j hj => by
    rw [Nat.zero_add, hf j (by omega)]
    exact le_refl ren_nil _)

theorem fz_lit {c : Cx} {σ : St} {i n : Nat} {o : Ob} {xs : List Nat} (h0 : σ.h i = some o) (hn : n = xs.length) (ho : xs.length ≤ o.n) (hf : ∀ j, j < xs.length → o.f j = .p (u64 (xs.getD j 0))) :
    FreezeLe c σ (.own i 0 n 1) (u64s xs) := by
  subst hn
  exact fz_own h0 (by omega) (fun j hj => by
    rw [Nat.zero_add, hf j (by omega)]
    exact fz_p (PLe.refl _))

/-- What is known of the last divisor and its polynomial. -/
theorem ext_facts {p : Nat} (hf : FdP p (minv p)) {a b : List Nat} (ha : Nz p a) (hb : Nz p b) (hb0 : 0 < b.length) {R S : List Nat} (hR : extF (minv p) p (b.length + 1) a [1] b [] = (R, S)) :
    Nz p R ∧ Nz p S ∧ 0 < R.length ∧ R.length ≤ b.length ∧ S.length ≤ a.length + b.length + 1 ∧ extR (minv p) p a b = (monicF (minv p) p R, remN (minv p) p (trimN (scaleL p S (minv p (R.getD (R.length - 1) 0)))) (divN (minv p) p b (monicF (minv p) p R)).1,
      (divN (minv p) p (subN p (monicF (minv p) p R) (timesN p (remN (minv p) p (trimN (scaleL p S (minv p (R.getD (R.length - 1) 0)))) (divN (minv p) p b (monicF (minv p) p R)).1) a)) b).1) := by
  have z := extF_nz hf (b.length + 1) a [1] b [] ha (Nz.one hf.prime.1) hb (Nz.nil hf.pos)
  have l := extF_len hf (b.length + 1) a [1] b [] b.length (by omega) ha (Nz.one hf.prime.1) hb (Nz.nil hf.pos) (Nat.le_refl _) (fun e => by omega)
  have l2 := (extF_bd (p := p) (iv := minv p) (a.length + b.length + 1) (b.length + 1) a [1] b [] (by simp; omega) (by simp; omega)).2
  rw [hR] at z l l2
  refine ⟨z.1, z.2, l.2, l.1, l2, ?_⟩
  unfold extR
  rw [if_neg (by omega), hR]

theorem Ext_spec {p : Nat} (hm : MayM p) (hf : FdP p (minv p)) (a b : List Nat) (hl : a.length < 1000) (hl2 : b.length < 1000) : CallSpec Tryz.pr.P Tryz.pr.G 24 [polyF p, u64s a, u64s b]
    (.tup 3 (three (u64s (extR (minv p) p (normN p a) (normN p b)).1) (u64s (extR (minv p) p (normN p a) (normN p b)).2.1) (u64s (extR (minv p) p (normN p a) (normN p b)).2.2))) := by
  have hp0 : 0 < p := hf.pos
  have la := length_normN p a
  have lb := length_normN p b
  have ha := Nz.norm hp0 a
  have hb := Nz.norm hp0 b
  have hNa := Norm_spec hm a (by omega)
  have hNb := Norm_spec hm b (by omega)
  generalize normN p a = na at *
  generalize normN p b = nb at *
  obtain ⟨X, hX⟩ : ∃ X, extR (minv p) p na nb = X := ⟨_, rfl⟩
  rw [hX]
  refine callSpec_of Tryz.pr Tryz.func24 rfl rfl rfl fun w0 ok0 hok hG => ?_
  refine ev_rs [] rfl trivial ?_
  refine ev_seq (ev_rs [] rfl trivial (ev_cf rfl (ev_sk ?_)))
  refine ev_rs [u64s na, u64s nb] rfl ⟨.inl hNb, .inl hNa, trivial⟩ ?_
  refine ev_seq (ev_rs [] rfl trivial (ev_cond rfl (fun h => ?_) (fun h => ev_sk ?_)))
  · have h0 : nb.length = 0 := Int.ofNat_inj.mp (beq_iff_eq.mp h)
    refine ev_seq (ev_rs [] rfl trivial (ev_cond rfl (fun h => ?_) (fun h => ev_sk ?_)))
    · have h1 : na.length = 0 := Int.ofNat_inj.mp (beq_iff_eq.mp h)
      have e : X = ([], [], []) := by rw [← hX]; unfold extR; rw [if_pos h0, if_pos h1]
      rw [e]
      exact ev_rs [] rfl trivial (ev_ret (ret3 (fz_p PLe.nil) (fz_p PLe.nil) (fz_p PLe.nil)))
    have h1 : 0 < na.length := Nat.pos_of_ne_zero fun e => (beq_eq_false_iff_ne.mp h) (congrArg (fun n : Nat => (n : Int)) e)
    have e : X = (monicF (minv p) p na, [minv p (na.getD (na.length - 1) 0)], []) := by rw [← hX]; unfold extR; rw [if_pos h0, if_neg (by omega)]
    rw [e]
    have e1 : IntKind.wrap .i64 ((na.length : Int) - 1) = ((na.length - 1 : Nat) : Int) := by rw [wrapI _ (by omega) (by omega)]; omega
    have hM := Monic_spec hm na (by omega)
    rw [ha.norm_id hp0] at hM
    refine ev_ds [.tup 2 (two (u64 (minv p (na.getD (na.length - 1) 0))) (i64 (wrong (na.getD (na.length - 1) 0) p)))] (by kernel_rfl) rfl rfl ?_ ?_
    · rw [e1]
      exact ⟨.inl (Inv_spec hm _), (by omega : na.length - 1 < na.length), ⟨by omega, by omega⟩, Nat.zero_lt_one, trivial⟩
    refine ev_rs [u64s (monicF (minv p) p na)] rfl ⟨.inl hM, trivial⟩ (ev_ret (ret3 (fz_p (PLe.refl _)) (fz_lit rfl rfl (Nat.le_refl 1) (fun j hj => ?_)) (fz_p PLe.nil)))
    match j, hj with
    | 0, _ => rfl
  have h0 : 0 < nb.length := Nat.pos_of_ne_zero fun e => (beq_eq_false_iff_ne.mp h) (congrArg (fun n : Nat => (n : Int)) e)
  obtain ⟨⟨R, S⟩, hR⟩ : ∃ RS, extF (minv p) p (nb.length + 1) na [1] nb [] = RS := ⟨_, rfl⟩
  obtain ⟨zR, zS, lR0, lR, lS, hE⟩ := ext_facts hf ha hb h0 hR
  rw [hX] at hE
  have h1z := Nz.one hf.prime.1
  refine ev_rs [] rfl trivial ?_
  refine ev_rs [] rfl trivial ?_
  refine ev_at (α := Unit) (fun _ => True) (fun _ => [(0, .p (polyF p)), (1, .p (u64s na)), (2, .p (u64s nb)), (11, .p (u64s R)), (12, .p (u64s S))]) (fun _ => []) ?_ ?_
  · refine ev_block (ev_while0 (α := Nat × List Nat × List Nat × List Nat × List Nat) (fun s => s.2.2.2.1.length ≤ s.1 ∧ (Nz p s.2.1 ∧ Nz p s.2.2.1 ∧ Nz p s.2.2.2.1 ∧ Nz p s.2.2.2.2) ∧ s.2.2.2.2.length + s.2.1.length ≤ na.length + nb.length + 1 ∧ s.2.2.1.length + s.2.2.2.1.length ≤ na.length + nb.length + 1 ∧ extF (minv p) p s.1 s.2.1 s.2.2.1 s.2.2.2.1 s.2.2.2.2 = (R, S))
      (fun s => [(0, .p (polyF p)), (1, .p (u64s na)), (2, .p (u64s nb)), (11, .p (u64s s.2.1)), (12, .p (u64s s.2.2.1)), (13, .p (u64s s.2.2.2.1)), (14, .p (u64s s.2.2.2.2))]) (fun s => s.1) (nb.length + 1, na, [1], nb, [])
      ⟨by dsimp only; omega, ⟨ha, h1z, hb, Nz.nil hp0⟩, by simp; omega, by simp; omega, hR⟩ ⟨le_0, le_0, le_0, le_0, le_lit rfl rfl (Nat.le_refl 1) (fun j hj => by match j, hj with | 0, _ => rfl), le_0, le_p ren_nil PLe.nil, trivial⟩ ?_)
    rintro ⟨f, r, s, x, y⟩ ⟨h1, ⟨h2, h3, h4, h5⟩, h6, h7, h8⟩
    dsimp only at h1 h2 h3 h4 h5 h6 h7 h8
    refine ev_seq (ev_rs [] rfl trivial (ev_cond rfl (fun h => ev_sk ?_) (fun h => ev_exit ?_)))
    · have hx : 0 < x.length := Int.ofNat_lt.mp (of_decide_eq_true h)
      obtain ⟨f, rfl⟩ : ∃ g, f = g + 1 := ⟨f - 1, by omega⟩
      have hr := remN_nz hf h2 h4 hx
      have hst : extF (minv p) p f x y (remN (minv p) p r x) (subN p s (timesN p (divN (minv p) p r x).1 y)) = (R, S) := by rw [← h8]; exact (if_neg (by omega)).symm
      have hk := ext_step (p := p) (iv := minv p) hx h6 h7
      have lq := divN_len (minv p) p r x
      have lt := timesN_len p (divN (minv p) p r x).1 y
      have lt' : (timesN p (divN (minv p) p r x).1 y).length ≤ (divN (minv p) p r x).1.length + y.length := by split at lt <;> omega
      have hC1 := times_all hm (divN (minv p) p r x).1 y (by omega) (by omega)
      have hC2 := USub_spec hm s (timesN p (divN (minv p) p r x).1 y) (by omega) (by omega)
      refine ev_block ?_
      refine ev_rs [.tup 2 (two (u64s (divN (minv p) p r x).1) (u64s (remN (minv p) p r x)))] rfl ⟨.inl (divide_spec hm r x hx (by omega) (by omega)), trivial⟩ ?_
      refine ev_rs [] rfl trivial ?_
      exact ev_region [u64s (timesN p (divN (minv p) p r x).1 y), u64s (subN p s (timesN p (divN (minv p) p r x).1 y))] rfl ⟨.inl hC2, .inl hC1, trivial⟩ (round0 (f, x, y, remN (minv p) p r x, subN p s (timesN p (divN (minv p) p r x).1 y)) ⟨by have := hr.2; dsimp only; omega, ⟨h4, h5, hr.1, subN_nz hp0 _ _⟩, hk.1, hk.2, hst⟩ (Nat.lt_succ_self f) ⟨le_0, le_0, le_0, le_0, le_0, le_0, le_0, trivial⟩)
    · have hx : x.length = 0 := by
        have := of_decide_eq_false h
        dsimp only at this
        omega
      have hrs : (r, s) = (R, S) := by
        rw [← h8]
        cases f with
        | zero => rfl
        | succ f => exact (if_pos hx).symm
      exact at0 () trivial ⟨le_0, le_0, le_0, le_e (congrArg u64s (congrArg Prod.fst hrs)), le_e (congrArg u64s (congrArg Prod.snd hrs)), trivial⟩
  rintro ⟨⟩ -
  have e1 : IntKind.wrap .i64 ((R.length : Int) - 1) = ((R.length - 1 : Nat) : Int) := by rw [wrapI _ (by omega) (by omega)]; omega
  have hM := Monic_spec hm R (by omega)
  rw [zR.norm_id hp0] at hM
  have hg0 := monicF_pos hf zR lR0
  have hgl := monicF_len (p := p) (iv := minv p) R
  have hgz := monicF_nz (iv := minv p) hp0 R
  obtain ⟨i, hi⟩ : ∃ i, minv p (R.getD (R.length - 1) 0) = i := ⟨_, rfl⟩
  have hI : ∀ b t : Nat, CallSpec Tryz.pr.P Tryz.pr.G 43 [fld p b t, u64 (R.getD (R.length - 1) 0)] (.tup 2 (two (u64 i) (i64 (wrong (R.getD (R.length - 1) 0) p)))) := fun b t => hi ▸ Inv_spec hm _
  rw [hi] at hE
  generalize monicF (minv p) p R = g at *
  have hq0 := quot_pos hf hb hgz hg0 (by omega)
  have hdz := hf.div hb hgz hg0
  have hql := divN_len (minv p) p nb g
  have hsc := trimL_le (scaleL p S i) (scaleL p S i).length
  rw [length_scaleL] at hsc
  have hD1 := divide_spec hm nb g hg0 (by omega) (by omega)
  have hScl := scale_spec hm S i (by omega)
  have hSz : Nz p (trimN (scaleL p S i)) := Nz.of_trim (scaleL_lt hp0 _ _)
  have hSl : (trimN (scaleL p S i)).length ≤ S.length := by rw [length_trimN, length_scaleL]; exact hsc
  generalize trimN (scaleL p S i) = sc at *
  obtain ⟨⟨q, q'⟩, hq⟩ : ∃ q, divN (minv p) p nb g = q := ⟨_, rfl⟩
  rw [hq] at hE hq0 hdz hql hD1
  have hD2 := divide_spec hm sc q hq0 (by omega) (by have := hql.1; dsimp only at this; omega)
  have hs2 := remN_nz hf hSz hdz.1 hq0
  have hs2 : Nz p (divN (minv p) p sc q).2 ∧ (divN (minv p) p sc q).2.length < q.length := hs2
  have hE : X = (g, (divN (minv p) p sc q).2, (divN (minv p) p (subN p g (timesN p (divN (minv p) p sc q).2 na)) nb).1) := hE
  obtain ⟨⟨s1, s2⟩, hs⟩ : ∃ z, divN (minv p) p sc q = z := ⟨_, rfl⟩
  rw [hs] at hE hs2 hD2
  have l2 : s2.length < nb.length + 1 := by have := hql.1; have := hs2.2; dsimp only at *; omega
  have hT := times_all hm s2 na (by omega) (by omega)
  have hTl := timesN_len p s2 na
  have hTl' : (timesN p s2 na).length ≤ s2.length + na.length := by split at hTl <;> omega
  have hS := USub_spec hm g (timesN p s2 na) (by omega) (by omega)
  have hSl2 := subN_len p g (timesN p s2 na)
  have hD3 := divide_spec hm (subN p g (timesN p s2 na)) nb h0 (by omega) (by omega)
  have hE : X = (g, s2, (divN (minv p) p (subN p g (timesN p s2 na)) nb).1) := hE
  rw [hE]
  generalize timesN p s2 na = ts at *
  generalize subN p g ts = gs at *
  refine ev_ds [.tup 2 (two (u64 i) (i64 (wrong (R.getD (R.length - 1) 0) p)))] (by kernel_rfl) rfl rfl ?_ ?_
  · rw [e1]
    exact ⟨(.inl (hI _ _)), (by omega : R.length - 1 < R.length), ⟨by omega, by omega⟩, Nat.zero_lt_one, trivial⟩
  refine ev_rs [u64s g] rfl ⟨.inl hM, trivial⟩ ?_
  refine ev_rs [.tup 2 (two (u64s q) (u64s q'))] rfl ⟨.inl hD1, trivial⟩ ?_
  refine ev_rs [u64s sc, .tup 2 (two (u64s s1) (u64s s2))] rfl ⟨.inl hD2, .inl hScl, trivial⟩ ?_
  refine ev_rs [u64s ts, u64s gs, .tup 2 (two (u64s (divN (minv p) p gs nb).1) (u64s (divN (minv p) p gs nb).2))] rfl ⟨.inl hD3, .inl hS, .inl hT, trivial⟩ ?_
  exact ev_rs [] rfl trivial (ev_ret (ret3 (fz_p (PLe.refl _)) (fz_p (PLe.refl _)) (fz_p (PLe.refl _))))

end Go.Proofs
