/- Polynomials: what the reference answers is what the program computes. -/
import Derived.Test.YtmpfgaebmdbdeaaGreatDoorVincUp
import Derived.Test.YtmpfgaebmdbdeaaGreatDoorVincPrm
set_option linter.unusedSimpArgs false
set_option linter.unusedVariables false
namespace Vinc.Num

def rAdd (p : Nat) (a b : List Nat) : List Nat := normN p (addL p a b)
def rScale (p : Nat) (a : List Nat) (x : Nat) : List Nat := normN p (scaleL p a x)
def rSub (p : Nat) (a b : List Nat) : List Nat := rAdd p a (rScale p b (p - 1))
def rMul (p : Nat) (a b : List Nat) : List Nat := normN p (oneN p a b)

/-- The quotient's new term. -/
def term (d c : Nat) : List Nat := (List.replicate (d + 1) 0).set d c

def rDivF (p inv : Nat) (b : List Nat) : Nat → List Nat × List Nat → List Nat × List Nat
  | 0, s => s
  | f + 1, (q, a) => if a.length < b.length then (q, a)
    else rDivF p inv b f (rAdd p q (term (a.length - b.length) (a.getD (a.length - 1) 0 * inv % p)), rSub p a (rMul p (term (a.length - b.length) (a.getD (a.length - 1) 0 * inv % p)) b))

def rInv (p x : Nat) : Nat := x ^ (p - 2) % p

def rDiv (p : Nat) (a b : List Nat) : List Nat × List Nat :=
  rDivF p (rInv p ((normN p b).getD ((normN p b).length - 1) 0)) (normN p b) ((normN p a).length + 1) ([], normN p a)

theorem Nz.rAdd {p : Nat} (hp : 0 < p) (a b : List Nat) : Nz p (Num.rAdd p a b) := Nz.norm hp _
theorem Nz.rSub {p : Nat} (hp : 0 < p) (a b : List Nat) : Nz p (Num.rSub p a b) := Nz.norm hp _
theorem Nz.rMul {p : Nat} (hp : 0 < p) (a b : List Nat) : Nz p (Num.rMul p a b) := Nz.norm hp _

theorem cg.pred {p : Nat} (hp : 0 < p) : cg p ((p - 1 : Nat) : Int) (-1) := ⟨1, by omega⟩

theorem ph_rAdd {p : Nat} (hp : 0 < p) (s : Nat → Int) (a b : List Nat) (k : Nat) : cg p (ph s (rAdd p a b) k) (ph s a k + ph s b k) := (ph_norm _ _ _).trans (ph_addL hp s a b k)

theorem ph_rScale {p : Nat} (hp : 0 < p) (s : Nat → Int) (a : List Nat) (x k : Nat) : cg p (ph s (rScale p a x) k) (x * ph s a k) := (ph_norm _ _ _).trans (ph_scaleL hp s a x k)

theorem ph_rSub {p : Nat} (hp : 0 < p) (s : Nat → Int) (a b : List Nat) (k : Nat) : cg p (ph s (rSub p a b) k) (ph s a k - ph s b k) := by
  refine (ph_rAdd hp s a _ k).trans (((cg.refl _).add ((ph_rScale hp s b _ k).trans ((cg.pred hp).mul (cg.refl _)))).trans (cg.of_eq ?_))
  rw [Int.neg_mul, Int.one_mul]; omega

theorem ph_rMul {p : Nat} (s : Nat → Int) (a b : List Nat) (k : Nat) : cg p (ph s (rMul p a b) k) (pr s a b k) := (ph_norm _ _ _).trans (ph_one s a b k)

theorem ph_term (s : Nat → Int) (d c k : Nat) : ph s (term d c) k = c * s (k + d) := by
  unfold term
  rw [ph_set _ _ _ _ _ (by rw [List.length_replicate]; omega), ph_rep, getD_rep]
  have : ((c : Int) - ((0 : Nat) : Int)) = c := by omega
  rw [this]; omega

theorem getD_term_lt {p : Nat} (hp : 0 < p) (d c : Nat) (hc : c < p) (j : Nat) : (term d c).getD j 0 < p := by
  unfold term
  rw [getD_set _ _ _ _ (by rw [List.length_replicate]; omega), getD_rep]
  split
  · exact hc
  · exact hp

/-- One step of the division makes it shorter. -/
theorem rStep_len {p : Nat} (hp : 0 < p) {inv : Nat} {b : List Nat} (hb0 : 0 < b.length) (hinv : cg p (((b.getD (b.length - 1) 0 : Nat) : Int) * inv) 1) {a : List Nat} (h : b.length ≤ a.length) {d c : Nat} (hd : a.length - b.length = d) (hc : a.getD (a.length - 1) 0 * inv % p = c) :
    (rSub p a (rMul p (term d c) b)).length ≤ a.length - 1 := by
  have hA : ∀ s k, cg p (ph s (rSub p a (rMul p (term d c) b)) k) (ph s a k - c * ph s b (k + d)) := fun s k => by
    refine (ph_rSub hp s a _ k).trans ((cg.refl _).sub ((ph_rMul s _ b k).trans (cg.of_eq ?_)))
    exact ph_term _ d c k
  have hctop : cg p ((c : Int) * ((b.getD (b.length - 1) 0 : Nat) : Int)) ((a.getD (a.length - 1) 0 : Nat) : Int) := by
    rw [← hc]
    refine ((cg.mod _).mul (cg.refl _)).trans ?_
    rw [Int.natCast_mul, Int.mul_assoc, Int.mul_comm (inv : Int)]
    have := (cg.refl ((a.getD (a.length - 1) 0 : Nat) : Int)).mul hinv
    rwa [Int.mul_one] at this
  refine (Nz.rSub hp _ _).len_le fun j hj => ?_
  refine (cg.zero_iff hp ((Nz.rSub hp a _).lt j)).mp ?_
  have h1 := hA (dl j) 0
  rw [ph_dl0, ph_dl0, ph_dl, if_pos (by omega)] at h1
  refine h1.trans ?_
  by_cases e : j = a.length - 1
  · rw [e, show a.length - 1 - (0 + d) = b.length - 1 by omega]
    have := (cg.refl ((a.getD (a.length - 1) 0 : Nat) : Int)).sub hctop
    rwa [Int.sub_self] at this
  · rw [getD_ge (a := a) (by omega), getD_ge (a := b) (by omega)]
    exact cg.of_eq (by simp)

theorem rDivF_all {p : Nat} (hp : 0 < p) (inv : Nat) (b : List Nat) (hb : Nz p b) (hb0 : 0 < b.length) (hinv : cg p (((b.getD (b.length - 1) 0 : Nat) : Int) * inv) 1) : ∀ (f : Nat) (q a : List Nat), a.length ≤ f → Nz p q → Nz p a →
    Nz p (rDivF p inv b f (q, a)).1 ∧ Nz p (rDivF p inv b f (q, a)).2 ∧ (rDivF p inv b f (q, a)).2.length < b.length ∧ ∀ s k, cg p (pr s (rDivF p inv b f (q, a)).1 b k + ph s (rDivF p inv b f (q, a)).2 k) (pr s q b k + ph s a k)
  | 0, q, a, hf, hq, ha => ⟨hq, ha, by show a.length < _; omega, fun s k => cg.refl _⟩
  | f + 1, q, a, hf, hq, ha => by
    by_cases h : a.length < b.length
    · have e : rDivF p inv b (f + 1) (q, a) = (q, a) := if_pos h
      rw [e]
      exact ⟨hq, ha, h, fun s k => cg.refl _⟩
    · obtain ⟨d, hd⟩ : ∃ d, a.length - b.length = d := ⟨_, rfl⟩
      obtain ⟨c, hc⟩ : ∃ c, a.getD (a.length - 1) 0 * inv % p = c := ⟨_, rfl⟩
      have e : rDivF p inv b (f + 1) (q, a) = rDivF p inv b f (rAdd p q (term d c), rSub p a (rMul p (term d c) b)) := by
        rw [← hd, ← hc]; exact if_neg h
      have hA : ∀ s k, cg p (ph s (rSub p a (rMul p (term d c) b)) k) (ph s a k - c * ph s b (k + d)) := fun s k => by
        refine (ph_rSub hp s a _ k).trans ((cg.refl _).sub ((ph_rMul s _ b k).trans (cg.of_eq ?_)))
        exact ph_term _ d c k
      have hctop : cg p ((c : Int) * ((b.getD (b.length - 1) 0 : Nat) : Int)) ((a.getD (a.length - 1) 0 : Nat) : Int) := by
        rw [← hc]
        refine ((cg.mod _).mul (cg.refl _)).trans ?_
        rw [Int.natCast_mul, Int.mul_assoc, Int.mul_comm (inv : Int)]
        have := (cg.refl ((a.getD (a.length - 1) 0 : Nat) : Int)).mul hinv
        rwa [Int.mul_one] at this
      have hlen : (rSub p a (rMul p (term d c) b)).length ≤ a.length - 1 := (Nz.rSub hp _ _).len_le fun j hj => by
        refine (cg.zero_iff hp ((Nz.rSub hp a _).lt j)).mp ?_
        have h1 := hA (dl j) 0
        rw [ph_dl0, ph_dl0, ph_dl, if_pos (by omega)] at h1
        refine h1.trans ?_
        by_cases e : j = a.length - 1
        · rw [e, show a.length - 1 - (0 + d) = b.length - 1 by omega]
          have := (cg.refl ((a.getD (a.length - 1) 0 : Nat) : Int)).sub hctop
          rwa [Int.sub_self] at this
        · rw [getD_ge (a := a) (by omega), getD_ge (a := b) (by omega)]
          exact cg.of_eq (by simp)
      obtain ⟨i1, i2, i3, i4⟩ := rDivF_all hp inv b hb hb0 hinv f (rAdd p q (term d c)) (rSub p a (rMul p (term d c) b)) (by omega) (Nz.rAdd hp _ _) (Nz.rSub hp _ _)
      rw [e]
      refine ⟨i1, i2, i3, fun s k => (i4 s k).trans ?_⟩
      have h2 : cg p (pr s (rAdd p q (term d c)) b k) (pr s q b k + c * ph s b (k + d)) := (ph_rAdd hp _ q _ k).trans ((cg.refl _).add (cg.of_eq (ph_term _ d c k)))
      refine (h2.add (hA s k)).trans (cg.of_eq ?_)
      omega

/-- The two inverses are one. -/
theorem rInv_cg {p : Nat} (hp : IsPrime p) {x : Nat} (hx : x % p ≠ 0) : cg p ((x : Int) * rInv p x) 1 := by
  have h2 := hp.1
  have hd : ¬ p ∣ x := fun h => hx (Nat.mod_eq_zero_of_dvd h)
  have hf := fermat1 hp hd
  have e : x ^ (p - 1) = x * x ^ (p - 2) := by
    rw [show p - 1 = p - 2 + 1 by omega, Nat.pow_succ, Nat.mul_comm]
  unfold rInv
  refine ((cg.refl _).mul (cg.mod _)).trans ?_
  rw [← Int.natCast_mul, ← e]
  refine (cg.mod _).symm.trans (cg.of_eq ?_)
  rw [hf]; rfl

theorem cg_inv {p x y : Nat} (h : x * y % p = 1 % p) : cg p ((x : Int) * y) 1 := by
  rw [← Int.natCast_mul]
  refine (cg.mod _).symm.trans ?_
  rw [h]
  exact cg.mod 1

theorem rDiv_eq {p : Nat} (hp : IsPrime p) (iv : Nat → Nat) (hiv : ∀ x, x % p ≠ 0 → x * iv x % p = 1 % p) (a b : List Nat) (hb0 : 0 < (normN p b).length) : rDiv p a b = divN iv p (normN p a) (normN p b) := by
  have hp0 : 0 < p := hp.pos
  have hb := Nz.norm hp0 b
  have ha := Nz.norm hp0 a
  have hlast : (normN p b).getD ((normN p b).length - 1) 0 % p ≠ 0 := by
    rw [Nat.mod_eq_of_lt (hb.lt _)]
    exact hb.last hb0
  have h1 := cg_inv (hiv _ hlast)
  have h2 := rInv_cg hp hlast
  obtain ⟨a1, a2, a3, a4⟩ := rDivF_all hp0 _ (normN p b) hb hb0 h2 ((normN p a).length + 1) [] (normN p a) (by omega) (Nz.nil hp0) ha
  obtain ⟨b1, b2, b3, b4⟩ := divN_all hp0 iv (normN p a) (normN p b) ha hb hb0 h1
  obtain ⟨u1, u2⟩ := div_unique hb0 h1 a1.lt b1.lt a2.lt b2.lt a3 b3 fun s k => by
    refine (a4 s k).trans ((cg.of_eq ?_).trans (b4 s k).symm)
    show (0 : Int) + _ = _
    omega
  exact Prod.ext (a1.ext b1 u1) (a2.ext b2 u2)

/-! ### the others -/

theorem addL_lt {p : Nat} (hp : 0 < p) (a b : List Nat) (j : Nat) : (addL p a b).getD j 0 < p := by rw [getD_addL hp]; exact Nat.mod_lt _ hp
theorem subL_lt {p : Nat} (hp : 0 < p) (a b : List Nat) (j : Nat) : (subL p a b).getD j 0 < p := by rw [getD_subL hp]; exact sb_lt hp _ _
theorem scaleL_lt {p : Nat} (hp : 0 < p) (a : List Nat) (x j : Nat) : (scaleL p a x).getD j 0 < p := by rw [getD_scaleL hp]; exact Nat.mod_lt _ hp

theorem oneI_lt {p : Nat} (hp : 0 < p) (x : Nat) (b : List Nat) (i : Nat) (out : List Nat) (h : ∀ j, out.getD j 0 < p) : ∀ k, i + k ≤ out.length → ∀ j, (oneI p x b i out k).getD j 0 < p
  | 0, _, j => h j
  | k + 1, hk, j => by
    unfold oneI
    rw [getD_set _ _ _ _ (by rw [length_oneI]; omega)]
    split
    · exact Nat.mod_lt _ hp
    · exact oneI_lt hp x b i out h k (by omega) j

theorem oneO_lt {p : Nat} (hp : 0 < p) (a b : List Nat) (hb : 0 < b.length) : ∀ n, n ≤ a.length → ∀ j, (oneO p a b n).getD j 0 < p
  | 0, _, j => by
    unfold oneO
    rw [getD_rep]; exact hp
  | n + 1, hn, j => oneI_lt hp _ b n _ (oneO_lt hp a b hb n (by omega)) b.length (by rw [length_oneO]; omega) j

theorem oneN_lt {p : Nat} (hp : 0 < p) (a b : List Nat) (j : Nat) : (oneN p a b).getD j 0 < p := by
  unfold oneN
  split
  · rw [getD_ge (Nat.zero_le j)]; exact hp
  · exact oneO_lt hp a b (by omega) a.length (Nat.le_refl _) j

theorem rAdd_eq {p : Nat} (hp : 0 < p) (a b : List Nat) : rAdd p a b = trimN (addL p a b) := Nz.norm_eq (addL_lt hp a b) hp
theorem rMul_eq {p : Nat} (hp : 0 < p) (a b : List Nat) : rMul p a b = timesN p a b := Nz.norm_eq (oneN_lt hp a b) hp
theorem rScale_eq {p : Nat} (hp : 0 < p) (a : List Nat) (x : Nat) : rScale p a x = trimN (scaleL p a x) := Nz.norm_eq (scaleL_lt hp a x) hp

theorem rSub_eq {p : Nat} (hp : 0 < p) (a b : List Nat) : rSub p a b = trimN (subL p a b) :=
  (Nz.rSub hp a b).ext_ph (Nz.of_trim (subL_lt hp a b)) fun s k => by
    rw [ph_trim]
    exact (ph_rSub hp s a b k).trans (ph_subL hp s a b k).symm

/-- The inverse as a number. -/
theorem iv_eq {p : Nat} (hp : IsPrime p) {x y z : Nat} (hy : y < p) (hz : z < p) (h1 : cg p ((x : Int) * y) 1) (h2 : cg p ((x : Int) * z) 1) : y = z := by
  refine cg.eq_of_lt ?_ hy hz
  have a1 := h1.mul (cg.refl (z : Int))
  have a2 := h2.mul (cg.refl (y : Int))
  rw [Int.one_mul] at a1 a2
  refine a2.symm.trans ((cg.of_eq ?_).trans a1)
  rw [Int.mul_assoc, Int.mul_assoc, Int.mul_comm (z : Int)]

/-! ### what is made with loops -/

/-- A row of numbers that are told one by one. -/
def tabK (f : Nat → Nat) (n : Nat) : Nat → List Nat
  | 0 => List.replicate n 0
  | i + 1 => (tabK f n i).set i (f i)

theorem length_tabK (f : Nat → Nat) (n : Nat) : ∀ i, (tabK f n i).length = n
  | 0 => by simp [tabK]
  | i + 1 => by simp [tabK, length_tabK f n i]

theorem tabK_at (f : Nat → Nat) (n : Nat) : ∀ i, i ≤ n → ∀ j, (tabK f n i).getD j 0 = if j < i then f j else 0
  | 0, _, j => by unfold tabK; rw [getD_rep]; simp
  | i + 1, hi, j => by
    unfold tabK
    rw [getD_set _ _ _ _ (by rw [length_tabK]; omega), tabK_at f n i (by omega) j]
    by_cases h : j = i
    · rw [if_pos h, h, if_pos (by omega)]
    · rw [if_neg h]
      by_cases h2 : j < i
      · rw [if_pos h2, if_pos (by omega)]
      · rw [if_neg h2, if_neg (by omega)]

def tabL (f : Nat → Nat) (n : Nat) : List Nat := (List.range n).map f

theorem getD_tabL (f : Nat → Nat) (n j : Nat) : (tabL f n).getD j 0 = if j < n then f j else 0 := by
  unfold tabL
  rw [List.getD_eq_getElem?_getD, List.getElem?_map]
  by_cases h : j < n
  · rw [List.getElem?_range h, if_pos h]; rfl
  · rw [List.getElem?_eq_none (by rw [List.length_range]; omega), if_neg h]; rfl

theorem tabK_all (f : Nat → Nat) (n : Nat) : tabK f n n = tabL f n := by
  refine list_eq (by rw [length_tabK]; simp [tabL]) fun j hj => ?_
  rw [length_tabK] at hj
  rw [tabK_at f n n (Nat.le_refl _), getD_tabL]

theorem tabL_snoc (f : Nat → Nat) (n : Nat) : tabL f (n + 1) = tabL f n ++ [f n] := by
  unfold tabL
  rw [List.range_succ, List.map_append]
  rfl

def deriveN (p : Nat) (a : List Nat) : List Nat := trimN (tabL (fun i => a.getD (i + 1) 0 * (i + 1) % p) (a.length - 1))

def monicN (iv : Nat → Nat) (p : Nat) (a : List Nat) : List Nat := trimN (scaleL p (normN p a) (iv ((normN p a).getD ((normN p a).length - 1) 0)))

/-- The value at a place: the coefficients from the highest one down. -/
def evalF (p x : Nat) (a : List Nat) : Nat → Nat
  | 0 => 0
  | n + 1 => (evalF p x a n * x % p + a.getD (a.length - 1 - n) 0) % p

end Vinc.Num
