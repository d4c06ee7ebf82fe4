/- Polynomials over a field of words: the reference's divisors with their polynomials. -/
import Derived.Test.YtmpfgaebmdbdeaaDoorUpo3
set_option linter.unusedVariables false
namespace Go.Proofs
open Go Vinc Vinc.Num

theorem gcdN_len {p : Nat} (hf : FdP p (minv p)) (a b : List Nat) (hl : a.length < 1000) (hl2 : b.length < 1000) : (gcdN (minv p) p a b).length < 1000 := by
  have la := length_normN p a
  have lb := length_normN p b
  have h1 := gcdF_len hf ((normN p b).length + 1) (normN p a) (normN p b) 999 (Nz.norm hf.pos a) (Nz.norm hf.pos b) (by omega) (by omega)
  have h2 := monicF_len (p := p) (iv := minv p) (gcdF (minv p) p ((normN p b).length + 1) (normN p a) (normN p b))
  unfold gcdN
  omega

theorem extR_len0 {p : Nat} (hf : FdP p (minv p)) {a b : List Nat} (ha : Nz p a) (hb : Nz p b) (hl : a.length < 1000) (hl2 : b.length < 1000) :
    (extR (minv p) p a b).1.length < 1000 ∧ (extR (minv p) p a b).2.1.length < 2001 ∧ (extR (minv p) p a b).2.2.length < 5000 := by
  rcases Nat.eq_zero_or_pos b.length with h0 | h0
  · unfold extR
    rw [if_pos h0]
    split
    · exact ⟨by decide, by decide, by decide⟩
    · have := monicF_len (p := p) (iv := minv p) a
      exact ⟨by dsimp only; omega, by show 1 < 2001; omega, by show 0 < 5000; omega⟩
  · obtain ⟨⟨R, S⟩, hR⟩ : ∃ RS, extF (minv p) p (b.length + 1) a [1] b [] = RS := ⟨_, rfl⟩
    obtain ⟨zR, zS, lR0, lR, lS, hE⟩ := ext_facts hf ha hb h0 hR
    have hgl := monicF_len (p := p) (iv := minv p) R
    rw [hE]
    dsimp only
    have h1 := trimL_le (scaleL p S (minv p (R.getD (R.length - 1) 0))) (scaleL p S (minv p (R.getD (R.length - 1) 0))).length
    have h1' : (trimN (scaleL p S (minv p (R.getD (R.length - 1) 0)))).length ≤ S.length := by
      rw [length_trimN]
      rw [length_scaleL] at h1 ⊢
      exact h1
    have h2 := (divN_len (minv p) p (trimN (scaleL p S (minv p (R.getD (R.length - 1) 0)))) (divN (minv p) p b (monicF (minv p) p R)).1).2
    have h2' : (remN (minv p) p (trimN (scaleL p S (minv p (R.getD (R.length - 1) 0)))) (divN (minv p) p b (monicF (minv p) p R)).1).length ≤ (trimN (scaleL p S (minv p (R.getD (R.length - 1) 0)))).length := h2
    generalize remN (minv p) p (trimN (scaleL p S (minv p (R.getD (R.length - 1) 0)))) (divN (minv p) p b (monicF (minv p) p R)).1 = s2 at *
    have h3 := timesN_len p s2 a
    have h3' : (timesN p s2 a).length ≤ s2.length + a.length := by split at h3 <;> omega
    have h4 := subN_len p (monicF (minv p) p R) (timesN p s2 a)
    have h5 := (divN_len (minv p) p (subN p (monicF (minv p) p R) (timesN p s2 a)) b).1
    omega

theorem extR_len {p : Nat} (hf : FdP p (minv p)) (a b : List Nat) (hl : a.length < 1000) (hl2 : b.length < 1000) :
    (extR (minv p) p (normN p a) (normN p b)).1.length < 1000 ∧ (extR (minv p) p (normN p a) (normN p b)).2.1.length < 2001 ∧ (extR (minv p) p (normN p a) (normN p b)).2.2.length < 5000 := by
  have la := length_normN p a
  have lb := length_normN p b
  exact extR_len0 hf (Nz.norm hf.pos a) (Nz.norm hf.pos b) (by omega) (by omega)

theorem RExt_spec {p : Nat} (hm : MayM p) (hf : FdP p (minv p)) (a b : List Nat) (hl : a.length < 1000) (hl2 : b.length < 1000) : CallSpec Tryd.pr.P Tryd.pr.G 25 [u64s a, u64s b, u64 p]
    (.tup 3 (three (u64s (extR (minv p) p (normN p a) (normN p b)).1) (u64s (extR (minv p) p (normN p a) (normN p b)).2.1) (u64s (extR (minv p) p (normN p a) (normN p b)).2.2))) := by
  have hp0 : 0 < p := hf.pos
  have hp2 := hm.2
  have la := length_normN p a
  have lb := length_normN p b
  have ha := Nz.norm hp0 a
  have hb := Nz.norm hp0 b
  have hNa := RNorm_spec hm a (by omega)
  have hNb := RNorm_spec hm b (by omega)
  have hDiv : ∀ x y : List Nat, Nz p x → Nz p y → x.length < 10000 → y.length < 10000 → 0 < y.length → CallSpec Tryd.pr.P Tryd.pr.G 12 [u64s x, u64s y, u64 p] (.tup 2 (two (u64s (divN (minv p) p x y).1) (u64s (divN (minv p) p x y).2))) := fun x y hx hy h1 h2 h3 => by
    have := RDiv_spec hm hf.prime x y h1 h2 (by rw [hy.norm_id hp0]; exact h3)
    rwa [hf.rdiv' hx hy h3] at this
  have hMul : ∀ x y : List Nat, Nz p y → x.length < 10000 → y.length < 10000 → CallSpec Tryd.pr.P Tryd.pr.G 38 [u64s x, u64s y, u64 p] (u64s (timesN p x y)) := fun x y hy h1 h2 => by
    have := RMul_spec hm x y (by omega) (by omega) (nz_w64 hm hy)
    rwa [rMul_eq hp0] at this
  have hSub : ∀ x y : List Nat, x.length < 30000 → y.length < 30000 → CallSpec Tryd.pr.P Tryd.pr.G 19 [u64s x, u64s y, u64 p] (u64s (subN p x y)) := fun x y h1 h2 => by
    have := RSub_spec hm x y (by omega) (by omega)
    rwa [rSub_eq hp0] at this
  generalize normN p a = na at *
  generalize normN p b = nb at *
  obtain ⟨X, hX⟩ : ∃ X, extR (minv p) p na nb = X := ⟨_, rfl⟩
  rw [hX]
  refine callSpec_of Tryd.pr Tryd.func25 rfl rfl rfl fun w0 ok0 hok hG => ?_
  refine ev_rs [] rfl trivial ?_
  refine ev_rs [u64s na] rfl ⟨.inl hNa, trivial⟩ ?_
  refine ev_rs [u64s nb] rfl ⟨.inl hNb, trivial⟩ ?_
  refine ev_seq (ev_rs [] rfl trivial (ev_cond rfl (fun h => ?_) (fun h => ev_sk ?_)))
  · have h0 : nb.length = 0 := Int.ofNat_inj.mp (beq_iff_eq.mp h)
    refine ev_seq (ev_rs [] rfl trivial (ev_cond rfl (fun h => ?_) (fun h => ev_sk ?_)))
    · have h1 : na.length = 0 := Int.ofNat_inj.mp (beq_iff_eq.mp h)
      have e : X = ([], [], []) := by rw [← hX]; unfold extR; rw [if_pos h0, if_pos h1]
      rw [e]
      exact ev_rs [] rfl trivial (ev_ret (ret3 (fz_p PLe.nil) (fz_p PLe.nil) (fz_p PLe.nil)))
    have h1 : 0 < na.length := Nat.pos_of_ne_zero fun e => (beq_eq_false_iff_ne.mp h) (congrArg (fun n : Nat => (n : Int)) e)
    have e : X = (monicF (minv p) p na, [minv p (na.getD (na.length - 1) 0)], []) := by rw [← hX]; unfold extR; rw [if_pos h0, if_neg (by omega)]
    rw [e]
    have e1 : IntKind.wrap .i64 ((na.length : Int) - 1) = ((na.length - 1 : Nat) : Int) := by rw [wrapI _ (by omega) (by omega)]; omega
    have hM := RMonic_spec hm hf na (by omega)
    rw [ha.norm_id hp0] at hM
    have hlast : na.getD (na.length - 1) 0 % p ≠ 0 := by rw [Nat.mod_eq_of_lt (ha.lt _)]; exact ha.last h1
    have hi := RInv_spec hm (na.getD (na.length - 1) 0) (nz_w64 hm ha _)
    rw [hf.rinv hlast] at hi
    refine ev_ds [u64s (monicF (minv p) p na), u64 (minv p (na.getD (na.length - 1) 0))] (by kernel_rfl) rfl rfl ?_ ?_
    · rw [e1]
      exact ⟨.inl hi, (by omega : na.length - 1 < na.length), ⟨by omega, by omega⟩, .inl hM, trivial⟩
    refine ev_ret (ret3 (fz_p (PLe.refl _)) (fz_lit rfl rfl (Nat.le_refl 1) (fun j hj => ?_)) (fz_p PLe.nil))
    match j, hj with
    | 0, _ => rfl
  have h0 : 0 < nb.length := Nat.pos_of_ne_zero fun e => (beq_eq_false_iff_ne.mp h) (congrArg (fun n : Nat => (n : Int)) e)
  obtain ⟨⟨R, S⟩, hR⟩ : ∃ RS, extF (minv p) p (nb.length + 1) na [1] nb [] = RS := ⟨_, rfl⟩
  obtain ⟨zR, zS, lR0, lR, lS, hE⟩ := ext_facts hf ha hb h0 hR
  rw [hX] at hE
  have h1z := Nz.one hf.prime.1
  refine ev_rs [] rfl trivial ?_
  refine ev_rs [] rfl trivial ?_
  refine ev_rs [] rfl trivial ?_
  refine ev_rs [] rfl trivial ?_
  refine ev_at (α := Unit) (fun _ => True) (fun _ => [(0, .p (u64s na)), (1, .p (u64s nb)), (2, .p (u64 p)), (9, .p (u64s R)), (10, .p (u64s S))]) (fun _ => []) ?_ ?_
  · refine ev_block (ev_while0 (α := Nat × List Nat × List Nat × List Nat × List Nat) (fun s => s.2.2.2.1.length ≤ s.1 ∧ (Nz p s.2.1 ∧ Nz p s.2.2.1 ∧ Nz p s.2.2.2.1 ∧ Nz p s.2.2.2.2) ∧ s.2.2.2.2.length + s.2.1.length ≤ na.length + nb.length + 1 ∧ s.2.2.1.length + s.2.2.2.1.length ≤ na.length + nb.length + 1 ∧ extF (minv p) p s.1 s.2.1 s.2.2.1 s.2.2.2.1 s.2.2.2.2 = (R, S))
      (fun s => [(0, .p (u64s na)), (1, .p (u64s nb)), (2, .p (u64 p)), (9, .p (u64s s.2.1)), (10, .p (u64s s.2.2.1)), (11, .p (u64s s.2.2.2.1)), (12, .p (u64s s.2.2.2.2))]) (fun s => s.1) (nb.length + 1, na, [1], nb, [])
      ⟨by dsimp only; omega, ⟨ha, h1z, hb, Nz.nil hp0⟩, by simp; omega, by simp; omega, hR⟩ ⟨le_0, le_0, le_0, le_0, le_lit rfl rfl (Nat.le_refl 1) (fun j hj => by match j, hj with | 0, _ => rfl), le_0, le_p ren_nil PLe.nil, trivial⟩ ?_)
    rintro ⟨f, r, s, x, y⟩ ⟨h1, ⟨h2, h3, h4, h5⟩, h6, h7, h8⟩
    dsimp only at h1 h2 h3 h4 h5 h6 h7 h8
    refine ev_seq (ev_rs [] rfl trivial (ev_cond rfl (fun h => ev_sk ?_) (fun h => ev_exit ?_)))
    · have hx : 0 < x.length := Int.ofNat_lt.mp (of_decide_eq_true h)
      obtain ⟨f, rfl⟩ : ∃ g, f = g + 1 := ⟨f - 1, by omega⟩
      have hr := remN_nz hf h2 h4 hx
      have hst : extF (minv p) p f x y (remN (minv p) p r x) (subN p s (timesN p (divN (minv p) p r x).1 y)) = (R, S) := by rw [← h8]; exact (if_neg (by omega)).symm
      have hk := ext_step (p := p) (iv := minv p) hx h6 h7
      have lq := divN_len (minv p) p r x
      have lt := timesN_len p (divN (minv p) p r x).1 y
      have lt' : (timesN p (divN (minv p) p r x).1 y).length ≤ (divN (minv p) p r x).1.length + y.length := by split at lt <;> omega
      have hC1 := hMul (divN (minv p) p r x).1 y h5 (by omega) (by omega)
      have hC2 := hSub s (timesN p (divN (minv p) p r x).1 y) (by omega) (by omega)
      refine ev_block ?_
      refine ev_rs [.tup 2 (two (u64s (divN (minv p) p r x).1) (u64s (remN (minv p) p r x)))] rfl ⟨.inl (hDiv r x h2 h4 (by omega) (by omega) hx), trivial⟩ ?_
      refine ev_rs [] rfl trivial ?_
      refine ev_rs [] rfl trivial ?_
      refine ev_rs [u64s (timesN p (divN (minv p) p r x).1 y), u64s (subN p s (timesN p (divN (minv p) p r x).1 y))] rfl ⟨.inl hC2, .inl hC1, trivial⟩ ?_
      refine ev_rs [] rfl trivial ?_
      exact ev_region [] rfl trivial (round0 (f, x, y, remN (minv p) p r x, subN p s (timesN p (divN (minv p) p r x).1 y)) ⟨by have := hr.2; dsimp only; omega, ⟨h4, h5, hr.1, subN_nz hp0 _ _⟩, hk.1, hk.2, hst⟩ (Nat.lt_succ_self f) ⟨le_0, le_0, le_0, le_0, le_0, le_0, le_0, trivial⟩)
    · have hx : x.length = 0 := by
        have := of_decide_eq_false h
        dsimp only at this
        omega
      have hrs : (r, s) = (R, S) := by
        rw [← h8]
        cases f with
        | zero => rfl
        | succ f => exact (if_pos hx).symm
      exact at0 () trivial ⟨le_0, le_0, le_0, le_e (congrArg u64s (congrArg Prod.fst hrs)), le_e (congrArg u64s (congrArg Prod.snd hrs)), trivial⟩
  rintro ⟨⟩ -
  have e1 : IntKind.wrap .i64 ((R.length : Int) - 1) = ((R.length - 1 : Nat) : Int) := by rw [wrapI _ (by omega) (by omega)]; omega
  have hM := RMonic_spec hm hf R (by omega)
  rw [zR.norm_id hp0] at hM
  have hlast : R.getD (R.length - 1) 0 % p ≠ 0 := by rw [Nat.mod_eq_of_lt (zR.lt _)]; exact zR.last lR0
  have hI := RInv_spec hm (R.getD (R.length - 1) 0) (nz_w64 hm zR _)
  rw [hf.rinv hlast] at hI
  have hg0 := monicF_pos hf zR lR0
  have hgl := monicF_len (p := p) (iv := minv p) R
  have hgz := monicF_nz (iv := minv p) hp0 R
  have hil := hf.lt (R.getD (R.length - 1) 0)
  generalize minv p (R.getD (R.length - 1) 0) = i at *
  generalize monicF (minv p) p R = g at *
  have hq0 := quot_pos hf hb hgz hg0 (by omega)
  have hdz := hf.div hb hgz hg0
  have hql := divN_len (minv p) p nb g
  have hsc := trimL_le (scaleL p S i) (scaleL p S i).length
  rw [length_scaleL] at hsc
  have hD1 := hDiv nb g hb hgz (by omega) (by omega) hg0
  have hScl := RScale_spec hm S i (by omega) (by omega)
  rw [rScale_eq hp0] at hScl
  have hSz : Nz p (trimN (scaleL p S i)) := Nz.of_trim (scaleL_lt hp0 _ _)
  have hSl : (trimN (scaleL p S i)).length ≤ S.length := by rw [length_trimN, length_scaleL]; exact hsc
  generalize trimN (scaleL p S i) = sc at *
  obtain ⟨⟨q, q'⟩, hq⟩ : ∃ q, divN (minv p) p nb g = q := ⟨_, rfl⟩
  rw [hq] at hE hq0 hdz hql hD1
  have hD2 := hDiv sc q hSz hdz.1 (by omega) (by have := hql.1; dsimp only at this; omega) hq0
  have hs2 := remN_nz hf hSz hdz.1 hq0
  have hs2 : Nz p (divN (minv p) p sc q).2 ∧ (divN (minv p) p sc q).2.length < q.length := hs2
  have hE : X = (g, (divN (minv p) p sc q).2, (divN (minv p) p (subN p g (timesN p (divN (minv p) p sc q).2 na)) nb).1) := hE
  obtain ⟨⟨s1, s2⟩, hs⟩ : ∃ z, divN (minv p) p sc q = z := ⟨_, rfl⟩
  rw [hs] at hE hs2 hD2
  have l2 : s2.length < nb.length + 1 := by have := hql.1; have := hs2.2; dsimp only at *; omega
  have hT := hMul s2 na ha (by omega) (by omega)
  have hTl := timesN_len p s2 na
  have hTl' : (timesN p s2 na).length ≤ s2.length + na.length := by split at hTl <;> omega
  have hS := hSub g (timesN p s2 na) (by omega) (by omega)
  have hSl2 := subN_len p g (timesN p s2 na)
  have hD3 := hDiv (subN p g (timesN p s2 na)) nb (subN_nz hp0 _ _) hb (by omega) (by omega) h0
  have hE : X = (g, s2, (divN (minv p) p (subN p g (timesN p s2 na)) nb).1) := hE
  rw [hE]
  generalize timesN p s2 na = ts at *
  generalize subN p g ts = gs at *
  refine ev_rs [u64s g] rfl ⟨.inl hM, trivial⟩ ?_
  refine ev_rs [u64 i, u64s sc] rfl ?_ ?_
  · rw [e1]
    exact ⟨.inl hScl, .inl hI, (by omega : R.length - 1 < R.length), ⟨by omega, by omega⟩, trivial⟩
  refine ev_rs [.tup 2 (two (u64s q) (u64s q'))] rfl ⟨.inl hD1, trivial⟩ ?_
  refine ev_rs [.tup 2 (two (u64s s1) (u64s s2))] rfl ⟨.inl hD2, trivial⟩ ?_
  refine ev_rs [u64s ts, u64s gs, .tup 2 (two (u64s (divN (minv p) p gs nb).1) (u64s (divN (minv p) p gs nb).2))] rfl ⟨.inl hD3, .inl hS, .inl hT, trivial⟩ ?_
  exact ev_rs [] rfl trivial (ev_ret (ret3 (fz_p (PLe.refl _)) (fz_p (PLe.refl _)) (fz_p (PLe.refl _))))

end Go.Proofs
