/- Polynomials as a ring; the two polynomials of Ext. -/
import Derived.Test.YtmpfgaebmdbdeaaGreatDoorVincUg
set_option linter.unusedSimpArgs false
set_option linter.unusedVariables false
namespace Vinc.Num

theorem pr_ph (s : Nat → Int) (a b : List Nat) (k : Nat) : pr s a b k = ph (fun i => ph s b i) a k := rfl

theorem timesN_assoc {p : Nat} (hp : 0 < p) (a b c : List Nat) : timesN p (timesN p a b) c = timesN p a (timesN p b c) :=
  (timesN_nz hp _ _).ext_ph (timesN_nz hp _ _) fun s k =>
    ((ph_timesN s (timesN p a b) c k).trans (ph_timesN (fun i => ph s c i) a b k)).trans ((ph_timesN s a (timesN p b c) k).trans (ph_fun_cg (fun i => ph_timesN s b c i) a k)).symm

theorem timesN_left {p : Nat} (hp : 0 < p) (a b c : List Nat) : timesN p a (timesN p b c) = timesN p b (timesN p a c) := by
  rw [← timesN_assoc hp, timesN_comm hp a b, timesN_assoc hp]

theorem addN_comm {p : Nat} (hp : 0 < p) (a b : List Nat) : addN p a b = addN p b a :=
  (addN_nz hp _ _).ext_ph (addN_nz hp _ _) fun s k =>
    (ph_addN hp s a b k).trans ((cg.of_eq (Int.add_comm _ _)).trans (ph_addN hp s b a k).symm)

theorem addN_assoc {p : Nat} (hp : 0 < p) (a b c : List Nat) : addN p (addN p a b) c = addN p a (addN p b c) :=
  (addN_nz hp _ _).ext_ph (addN_nz hp _ _) fun s k =>
    ((ph_addN hp s _ c k).trans ((ph_addN hp s a b k).add (cg.refl _))).trans ((cg.of_eq (Int.add_assoc _ _ _)).trans ((ph_addN hp s a _ k).trans ((cg.refl _).add (ph_addN hp s b c k))).symm)

theorem addN_left {p : Nat} (hp : 0 < p) (a b c : List Nat) : addN p a (addN p b c) = addN p b (addN p a c) := by
  rw [← addN_assoc hp, addN_comm hp a b, addN_assoc hp]

theorem times_add {p : Nat} (hp : 0 < p) (a b c : List Nat) : timesN p (addN p a b) c = addN p (timesN p a c) (timesN p b c) :=
  (timesN_nz hp _ _).ext_ph (addN_nz hp _ _) fun s k =>
    ((ph_timesN s (addN p a b) c k).trans (ph_addN hp (fun i => ph s c i) a b k)).trans ((ph_addN hp s _ _ k).trans ((ph_timesN s a c k).add (ph_timesN s b c k))).symm

theorem times_add' {p : Nat} (hp : 0 < p) (a b c : List Nat) : timesN p c (addN p a b) = addN p (timesN p c a) (timesN p c b) := by
  rw [timesN_comm hp, times_add hp, timesN_comm hp a, timesN_comm hp b]

theorem times_nil {p : Nat} (hp : 0 < p) (a : List Nat) : timesN p [] a = [] :=
  (timesN_nz hp _ _).ext_ph (Nz.nil hp) fun s k => (ph_timesN s [] a k).trans (cg.of_eq rfl)

theorem times_nil' {p : Nat} (hp : 0 < p) (a : List Nat) : timesN p a [] = [] := by rw [timesN_comm hp, times_nil hp]

theorem add_nil {p : Nat} (hp : 0 < p) {a : List Nat} (ha : Nz p a) : addN p a [] = a :=
  (addN_nz hp _ _).ext_ph ha fun s k => (ph_addN hp s a [] k).trans (cg.of_eq (by show _ + (0 : Int) = _; omega))

theorem nil_add {p : Nat} (hp : 0 < p) {a : List Nat} (ha : Nz p a) : addN p [] a = a := by rw [addN_comm hp, add_nil hp ha]

theorem pr_single (s : Nat → Int) (x : Nat) (a : List Nat) (k : Nat) : pr s [x] a k = x * ph s a k := by
  show (0 : Int) + (([x].getD 0 0 : Nat) : Int) * ph s a (k + 0) = _
  simp

theorem times_one {p : Nat} (hp : 0 < p) {a : List Nat} (ha : Nz p a) : timesN p [1] a = a :=
  (timesN_nz hp _ _).ext_ph ha fun s k => (ph_timesN s [1] a k).trans (cg.of_eq (by rw [pr_single]; simp))

theorem scale_times {p : Nat} (hp : 0 < p) (a : List Nat) (x : Nat) : trimN (scaleL p a x) = timesN p [x] a :=
  (Nz.of_trim (scaleL_lt hp a x)).ext_ph (timesN_nz hp _ _) fun s k => by
    rw [ph_trim]
    exact (ph_scaleL hp s a x k).trans ((cg.of_eq (pr_single s x a k).symm).trans (ph_timesN s [x] a k).symm)

theorem add_neg {p : Nat} (hp : 0 < p) (a : List Nat) : addN p a (timesN p [p - 1] a) = [] :=
  (addN_nz hp _ _).ext_ph (Nz.nil hp) fun s k => by
    refine (ph_addN hp s _ _ k).trans (((cg.refl _).add ((ph_timesN s [p - 1] a k).trans ((cg.of_eq (pr_single s _ a k)).trans ((cg.pred hp).mul (cg.refl _))))).trans (cg.of_eq ?_))
    show _ = (0 : Int)
    omega

theorem sub_eq {p : Nat} (hp : 0 < p) (a b : List Nat) : subN p a b = addN p a (timesN p [p - 1] b) :=
  (subN_nz hp _ _).ext_ph (addN_nz hp _ _) fun s k => by
    refine (ph_subN hp s a b k).trans (cg.symm ((ph_addN hp s _ _ k).trans (((cg.refl _).add ((ph_timesN s [p - 1] b k).trans ((cg.of_eq (pr_single s _ b k)).trans ((cg.pred hp).mul (cg.refl _))))).trans (cg.of_eq ?_))))
    omega

/-- What is left when a summand is taken away. -/
theorem sub_of_add {p : Nat} (hp : 0 < p) {a b c : List Nat} (hc : Nz p c) (h : a = addN p b c) : subN p a b = c := by
  rw [sub_eq hp, h, addN_assoc hp, addN_left hp, addN_comm hp c, add_neg hp, nil_add hp hc]

theorem times_norm {p : Nat} (hp : 0 < p) (a b : List Nat) : timesN p (normN p a) b = timesN p a b :=
  (timesN_nz hp _ _).ext_ph (timesN_nz hp _ _) fun s k => (ph_timesN s (normN p a) b k).trans ((ph_norm (fun i => ph s b i) a k).trans (ph_timesN s a b k).symm)

attribute [local irreducible] addN timesN subN

/-! ### what divides -/

def Dv (p : Nat) (g a : List Nat) : Prop := ∃ q, Nz p q ∧ a = timesN p q g

theorem Dv.nil {p : Nat} (hp : 0 < p) (g : List Nat) : Dv p g [] := ⟨[], Nz.nil hp, (times_nil hp g).symm⟩
theorem Dv.refl {p : Nat} (hp : 1 < p) {g : List Nat} (hg : Nz p g) : Dv p g g := ⟨[1], Nz.one hp, (times_one (by omega) hg).symm⟩
theorem Dv.add {p : Nat} (hp : 0 < p) {g a b : List Nat} (ha : Dv p g a) (hb : Dv p g b) : Dv p g (addN p a b) := by
  obtain ⟨q, hq, rfl⟩ := ha
  obtain ⟨r, hr, rfl⟩ := hb
  exact ⟨addN p q r, addN_nz hp _ _, (times_add hp q r g).symm⟩
theorem Dv.mul {p : Nat} (hp : 0 < p) {g a : List Nat} (c : List Nat) (ha : Dv p g a) : Dv p g (timesN p c a) := by
  obtain ⟨q, hq, rfl⟩ := ha
  exact ⟨timesN p c q, timesN_nz hp _ _, (timesN_assoc hp c q g).symm⟩
theorem Dv.trans {p : Nat} (hp : 0 < p) {g a b : List Nat} (h : Dv p g a) (h' : Dv p a b) : Dv p g b := by
  obtain ⟨q, hq, rfl⟩ := h'
  exact h.mul hp q

theorem Dv.div {p : Nat} {iv : Nat → Nat} (h : FdP p iv) {g a : List Nat} (hg : Nz p g) (hg0 : 0 < g.length) (hd : Dv p g a) : a = timesN p (divN iv p a g).1 g ∧ (divN iv p a g).2 = [] := by
  obtain ⟨q, hq, rfl⟩ := hd
  rw [h.exact hq hg hg0]
  exact ⟨rfl, rfl⟩

/-- The last divisor divides what it came from. -/
theorem ext_div {p : Nat} {iv : Nat → Nat} (h : FdP p iv) : ∀ (f : Nat) (r s x y : List Nat), x.length ≤ f → Nz p r → Nz p x → Dv p (extF iv p f r s x y).1 r ∧ Dv p (extF iv p f r s x y).1 x
  | 0, r, s, x, y, hf, hr, hx => by
    have e : x = [] := List.eq_nil_of_length_eq_zero (by omega)
    rw [e]
    exact ⟨Dv.refl h.prime.1 hr, Dv.nil h.pos r⟩
  | f + 1, r, s, x, y, hf, hr, hx => by
    unfold extF
    split
    · rename_i e
      rw [List.eq_nil_of_length_eq_zero e]
      exact ⟨Dv.refl h.prime.1 hr, Dv.nil h.pos r⟩
    · rename_i e
      have hm := remN_nz h hr hx (by omega)
      obtain ⟨h1, h2⟩ := ext_div h f x y (remN iv p r x) (subN p s (timesN p (divN iv p r x).1 y)) (by omega) hx hm.1
      refine ⟨?_, h1⟩
      have := (h1.mul h.pos (divN iv p r x).1).add h.pos h2
      have hb : addN p (timesN p (divN iv p r x).1 x) (remN iv p r x) = r := h.back hr hx (by omega)
      rwa [hb] at this

/-- The last divisor is made of the two. -/
theorem ext_comb {p : Nat} {iv : Nat → Nat} (h : FdP p iv) (A B : List Nat) : ∀ (f : Nat) (r s x y u v : List Nat), Nz p r → Nz p x → r = addN p (timesN p s A) (timesN p u B) → x = addN p (timesN p y A) (timesN p v B) →
    ∃ w, (extF iv p f r s x y).1 = addN p (timesN p (extF iv p f r s x y).2 A) (timesN p w B)
  | 0, r, s, x, y, u, v, hr, hx, e1, e2 => ⟨u, e1⟩
  | f + 1, r, s, x, y, u, v, hr, hx, e1, e2 => by
    have hp := h.pos
    unfold extF
    split
    · exact ⟨u, e1⟩
    · rename_i e
      have hm := remN_nz h hr hx (by omega)
      have hb : addN p (timesN p (divN iv p r x).1 x) (remN iv p r x) = r := h.back hr hx (by omega)
      have hs := sub_of_add hp hm.1 hb.symm
      refine ext_comb h A B f _ _ _ _ v (subN p u (timesN p (divN iv p r x).1 v)) hx hm.1 e2 ?_
      generalize (divN iv p r x).1 = q at *
      rw [← hs, sub_eq hp r, sub_eq hp s, sub_eq hp u]
      generalize remN iv p r x = m at *
      have e1' : addN p r (timesN p [p - 1] (timesN p q x)) = addN p (addN p (timesN p s A) (timesN p u B)) (timesN p [p - 1] (timesN p q (addN p (timesN p y A) (timesN p v B)))) := by rw [← e1, ← e2]
      rw [e1']
      simp only [times_add hp, times_add' hp, timesN_assoc hp, addN_assoc hp]
      exact congrArg (addN p _) (addN_left hp _ _ _)

theorem monic_times {p : Nat} (hp : 0 < p) (iv : Nat → Nat) (a : List Nat) : monicF iv p a = timesN p [iv (a.getD (a.length - 1) 0)] a := scale_times hp _ _

/-- What Ext answers: a divisor of both, made of the two. -/
theorem ext_all {p : Nat} {iv : Nat → Nat} (h : FdP p iv) {A B : List Nat} (hA : Nz p A) (hB : Nz p B) (h0 : 0 < A.length ∨ 0 < B.length) :
    Nz p (extR iv p A B).1 ∧ 0 < (extR iv p A B).1.length ∧ (extR iv p A B).1.getD ((extR iv p A B).1.length - 1) 0 = 1 ∧ Dv p (extR iv p A B).1 A ∧ Dv p (extR iv p A B).1 B ∧
      addN p (timesN p (extR iv p A B).2.1 A) (timesN p (extR iv p A B).2.2 B) = (extR iv p A B).1 := by
  have hp := h.pos
  -- the last coefficient of a monic polynomial
  have top : ∀ a : List Nat, Nz p a → 0 < a.length → (monicF iv p a).getD ((monicF iv p a).length - 1) 0 = 1 := fun a ha ha0 => by
    have h1 := monicF_top h ha ha0
    have h2 := monicF_len (p := p) (iv := iv) a
    have h3 := monicF_pos h ha ha0
    have h4 : (monicF iv p a).length = a.length := by
      rcases Nat.lt_or_ge (monicF iv p a).length a.length with hlt | hge
      · rw [getD_ge (by omega)] at h1
        omega
      · omega
    rw [h4]; exact h1
  -- a polynomial is divided by itself made monic
  have mon : ∀ a : List Nat, Nz p a → 0 < a.length → Dv p (monicF iv p a) a := fun a ha ha0 => by
    refine ⟨timesN p [a.getD (a.length - 1) 0] [1], timesN_nz hp _ _, ?_⟩
    rw [monic_times hp, timesN_assoc hp, times_one hp (timesN_nz hp _ _), ← timesN_assoc hp]
    have : timesN p [a.getD (a.length - 1) 0] [iv (a.getD (a.length - 1) 0)] = [1] := (timesN_nz hp _ _).ext_ph (Nz.one h.prime.1) fun s k => by
      refine (ph_timesN s _ _ k).trans ?_
      rw [pr_single]
      have e1 : ∀ x : Nat, ph s [x] k = x * s k := fun x => by
        show (0 : Int) + (([x].getD 0 0 : Nat) : Int) * s (k + 0) = _
        simp
      rw [e1, e1, ← Int.mul_assoc]
      exact (h.top ha ha0).mul (cg.refl _)
    rw [this, times_one hp ha]
  rcases Nat.eq_zero_or_pos B.length with hB0 | hB0
  · have hA0 : 0 < A.length := by omega
    have eB : B = [] := List.eq_nil_of_length_eq_zero hB0
    have eR : extR iv p A B = (monicF iv p A, [iv (A.getD (A.length - 1) 0)], []) := by unfold extR; rw [if_pos hB0, if_neg (by omega)]
    rw [eR]
    refine ⟨monicF_nz hp A, monicF_pos h hA hA0, top A hA hA0, mon A hA hA0, by rw [eB]; exact Dv.nil hp _, ?_⟩
    dsimp only
    rw [times_nil hp, monic_times hp, add_nil hp (timesN_nz hp _ _)]
  · obtain ⟨⟨R, S⟩, hR⟩ : ∃ RS, extF iv p (B.length + 1) A [1] B [] = RS := ⟨_, rfl⟩
    have z := extF_nz h (B.length + 1) A [1] B [] hA (Nz.one h.prime.1) hB (Nz.nil hp)
    have l := extF_len h (B.length + 1) A [1] B [] B.length (by omega) hA (Nz.one h.prime.1) hB (Nz.nil hp) (Nat.le_refl _) (fun e => by omega)
    have d := ext_div h (B.length + 1) A [1] B [] (by omega) hA hB
    obtain ⟨w, hw⟩ := ext_comb h A B (B.length + 1) A [1] B [] [] [1] hA hB (by rw [times_one hp hA, times_nil hp, add_nil hp hA]) (by rw [times_one hp hB, times_nil hp, nil_add hp hB])
    rw [hR] at z l d hw
    dsimp only at z l d hw
    obtain ⟨i, hi⟩ : ∃ i, iv (R.getD (R.length - 1) 0) = i := ⟨_, rfl⟩
    have eR : extR iv p A B = (monicF iv p R, remN iv p (trimN (scaleL p S i)) (divN iv p B (monicF iv p R)).1, (divN iv p (subN p (monicF iv p R) (timesN p (remN iv p (trimN (scaleL p S i)) (divN iv p B (monicF iv p R)).1) A)) B).1) := by
      unfold extR; rw [if_neg (by omega), hR, ← hi]
    have hg0 := monicF_pos h z.1 l.2
    have hgz := monicF_nz (iv := iv) hp R
    have hgl := monicF_len (p := p) (iv := iv) R
    have hgd := mon R z.1 l.2
    have hgt := top R z.1 l.2
    have dA := hgd.trans hp d.1
    have dB := hgd.trans hp d.2
    have hgR : monicF iv p R = timesN p [i] R := by rw [monic_times hp, hi]
    rw [eR]
    refine ⟨hgz, hg0, hgt, dA, dB, ?_⟩
    dsimp only
    rw [scale_times hp]
    generalize monicF iv p R = g at *
    have hB' := (dB.div h hgz hg0).1
    have hqz := (h.div hB hgz hg0).1
    have hq0 := quot_pos h hB hgz hg0 (by omega)
    generalize (divN iv p B g).1 = q at *
    have hbk := h.back (timesN_nz hp [i] S) hqz hq0
    have hrem : (divN iv p (timesN p [i] S) q).2 = remN iv p (timesN p [i] S) q := rfl
    rw [hrem] at hbk
    generalize (divN iv p (timesN p [i] S) q).1 = zq at *
    generalize remN iv p (timesN p [i] S) q = s2 at *
    obtain ⟨A', hA'z, hA'⟩ := dA
    have hT : subN p g (timesN p s2 A) = timesN p (addN p (timesN p [i] w) (timesN p zq A')) B := by
      refine sub_of_add hp (timesN_nz hp _ _) ?_
      have e1 : g = addN p (timesN p (timesN p [i] S) A) (timesN p (timesN p [i] w) B) := by
        rw [hgR, hw, times_add' hp, timesN_assoc hp, timesN_assoc hp]
      have e2 : timesN p (timesN p zq q) A = timesN p (timesN p zq A') B := by
        have e3 : timesN p q A = timesN p A' B := by
          conv => lhs; rw [hA']
          conv => rhs; rw [hB']
          exact timesN_left hp _ _ _
        rw [timesN_assoc hp, timesN_assoc hp, e3]
      conv => lhs; rw [e1]
      rw [← hbk, times_add hp, times_add hp, e2, addN_assoc hp, addN_left hp]
      exact congrArg (addN p _) (addN_comm hp _ _)
    rw [hT, h.exact (addN_nz hp _ _) hB hB0]
    dsimp only
    rw [← hT]
    have hz : Nz p (subN p g (timesN p s2 A)) := subN_nz hp _ _
    generalize timesN p s2 A = m at *
    -- m + (g - m) = g
    rw [sub_eq hp, addN_left hp, add_neg hp, add_nil hp hgz]

theorem extR_len2 {p : Nat} {iv : Nat → Nat} (h : FdP p iv) {a b : List Nat} {m : Nat} (ha : Nz p a) (hb : Nz p b) (hl : a.length ≤ m) (hl2 : b.length ≤ m) :
    (extR iv p a b).1.length ≤ m ∧ (extR iv p a b).2.1.length ≤ 2 * m + 1 ∧ (extR iv p a b).2.2.length ≤ 3 * m + 1 := by
  rcases Nat.eq_zero_or_pos b.length with h0 | h0
  · unfold extR
    rw [if_pos h0]
    split
    · exact ⟨Nat.zero_le _, Nat.zero_le _, Nat.zero_le _⟩
    · have := monicF_len (p := p) (iv := iv) a
      exact ⟨by dsimp only; omega, by show 1 ≤ _; omega, Nat.zero_le _⟩
  · obtain ⟨⟨R, S⟩, hR⟩ : ∃ RS, extF iv p (b.length + 1) a [1] b [] = RS := ⟨_, rfl⟩
    have l := extF_len h (b.length + 1) a [1] b [] b.length (by omega) ha (Nz.one h.prime.1) hb (Nz.nil h.pos) (Nat.le_refl _) (fun e => by omega)
    have l2 := (extF_bd (p := p) (iv := iv) (a.length + b.length + 1) (b.length + 1) a [1] b [] (by simp; omega) (by simp; omega)).2
    rw [hR] at l l2
    dsimp only at l l2
    have hgl := monicF_len (p := p) (iv := iv) R
    unfold extR
    rw [if_neg (by omega), hR]
    dsimp only
    have h1 := trimL_le (scaleL p S (iv (R.getD (R.length - 1) 0))) (scaleL p S (iv (R.getD (R.length - 1) 0))).length
    have h1' : (trimN (scaleL p S (iv (R.getD (R.length - 1) 0)))).length ≤ S.length := by
      rw [length_trimN]
      rw [length_scaleL] at h1 ⊢
      exact h1
    have h2 := (divN_len iv p (trimN (scaleL p S (iv (R.getD (R.length - 1) 0)))) (divN iv p b (monicF iv p R)).1).2
    have h2' : (remN iv p (trimN (scaleL p S (iv (R.getD (R.length - 1) 0)))) (divN iv p b (monicF iv p R)).1).length ≤ (trimN (scaleL p S (iv (R.getD (R.length - 1) 0)))).length := h2
    generalize remN iv p (trimN (scaleL p S (iv (R.getD (R.length - 1) 0)))) (divN iv p b (monicF iv p R)).1 = s2 at *
    have h3 := timesN_len p s2 a
    have h3' : (timesN p s2 a).length ≤ s2.length + a.length := by split at h3 <;> omega
    have h4 := subN_len p (monicF iv p R) (timesN p s2 a)
    have h5 := (divN_len iv p (subN p (monicF iv p R) (timesN p s2 a)) b).1
    omega

/-- What is checked of the two polynomials. -/
theorem bezout_all {p : Nat} {iv : Nat → Nat} (h : FdP p iv) {a b c : List Nat} (ha : Nz p a) (hb : Nz p b) (hc : Nz p c) (h0 : 0 < (timesN p a c).length ∨ 0 < (timesN p b c).length) {g s t : List Nat}
    (he : extR iv p (timesN p a c) (timesN p b c) = (g, s, t)) :
    Nz p g ∧ 0 < g.length ∧ g.getD (g.length - 1) 0 = 1 ∧ 0 < c.length ∧ (divN iv p (timesN p a c) g).2 = [] ∧ (divN iv p (timesN p b c) g).2 = [] ∧ (divN iv p g c).2 = [] ∧
      addN p (timesN p (normN p s) (timesN p a c)) (timesN p (normN p t) (timesN p b c)) = g := by
  have hp := h.pos
  obtain ⟨z1, z2, z3, z4, z5, z6⟩ := ext_all h (timesN_nz hp a c) (timesN_nz hp b c) h0
  rw [he] at z1 z2 z3 z4 z5 z6
  dsimp only at z1 z2 z3 z4 z5 z6
  have hc0 : 0 < c.length := by
    rcases Nat.eq_zero_or_pos c.length with e | e
    · rw [List.eq_nil_of_length_eq_zero e, times_nil' hp, times_nil' hp] at h0
      rcases h0 with h0 | h0 <;> exact absurd h0 (by decide)
    · exact e
  refine ⟨z1, z2, z3, hc0, (z4.div h z1 z2).2, (z5.div h z1 z2).2, ?_, by rw [times_norm hp, times_norm hp]; exact z6⟩
  have d : Dv p c g := by
    rw [← z6]
    exact Dv.add hp (Dv.mul hp s ⟨a, ha, rfl⟩) (Dv.mul hp t ⟨b, hb, rfl⟩)
  exact (d.div h hc hc0).2

theorem ext_zero {p : Nat} {iv : Nat → Nat} {a b : List Nat} (ha : a.length = 0) (hb : b.length = 0) : extR iv p a b = ([], [], []) := by
  unfold extR
  rw [if_pos hb, if_pos ha]

end Vinc.Num
