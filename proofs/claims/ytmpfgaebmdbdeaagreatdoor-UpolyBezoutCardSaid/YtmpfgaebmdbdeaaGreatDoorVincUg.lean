/- Greatest common divisors, powers: as the code computes them. -/
import Derived.Test.YtmpfgaebmdbdeaaGreatDoorVincHf
set_option linter.unusedSimpArgs false
set_option linter.unusedVariables false
namespace Vinc.Num

/-- What a prime and its inverses are. -/
structure FdP (p : Nat) (iv : Nat → Nat) : Prop where
  prime : IsPrime p
  inv : ∀ x, x % p ≠ 0 → x * iv x % p = 1 % p
  lt : ∀ x, iv x < p

theorem FdP.pos {p : Nat} {iv : Nat → Nat} (h : FdP p iv) : 0 < p := h.prime.pos

theorem FdP.top {p : Nat} {iv : Nat → Nat} (h : FdP p iv) {b : List Nat} (hb : Nz p b) (hb0 : 0 < b.length) : cg p (((b.getD (b.length - 1) 0 : Nat) : Int) * iv (b.getD (b.length - 1) 0)) 1 :=
  cg_inv (h.inv _ (by rw [Nat.mod_eq_of_lt (hb.lt _)]; exact hb.last hb0))

theorem FdP.div {p : Nat} {iv : Nat → Nat} (h : FdP p iv) {a b : List Nat} (ha : Nz p a) (hb : Nz p b) (hb0 : 0 < b.length) :
    Nz p (divN iv p a b).1 ∧ Nz p (divN iv p a b).2 ∧ (divN iv p a b).2.length < b.length ∧ ∀ s k, cg p (pr s (divN iv p a b).1 b k + ph s (divN iv p a b).2 k) (ph s a k) :=
  divN_all h.pos iv a b ha hb hb0 (h.top hb hb0)

theorem FdP.rdiv {p : Nat} {iv : Nat → Nat} (h : FdP p iv) (a b : List Nat) (hb0 : 0 < (normN p b).length) : rDiv p a b = divN iv p (normN p a) (normN p b) := rDiv_eq h.prime iv h.inv a b hb0

theorem FdP.rdiv' {p : Nat} {iv : Nat → Nat} (h : FdP p iv) {a b : List Nat} (ha : Nz p a) (hb : Nz p b) (hb0 : 0 < b.length) : rDiv p a b = divN iv p a b := by
  have := h.rdiv a b (by rw [hb.norm_id h.pos]; exact hb0)
  rwa [ha.norm_id h.pos, hb.norm_id h.pos] at this

/-- The reference's inverse is the program's. -/
theorem FdP.rinv {p : Nat} {iv : Nat → Nat} (h : FdP p iv) {x : Nat} (hx : x % p ≠ 0) : rInv p x = iv x :=
  iv_eq h.prime (Nat.mod_lt _ h.pos) (h.lt x) (rInv_cg h.prime hx) (cg_inv (h.inv x hx))

theorem Nz.one {p : Nat} (hp : 1 < p) : Nz p [1] := by
  refine ⟨rfl, fun j => ?_⟩
  match j with
  | 0 => exact hp
  | j + 1 => rw [getD_ge (by simp)]; omega

theorem timesN_nz {p : Nat} (hp : 0 < p) (a b : List Nat) : Nz p (timesN p a b) := Nz.of_trim (oneN_lt hp a b)
theorem subN_nz {p : Nat} (hp : 0 < p) (a b : List Nat) : Nz p (subN p a b) := Nz.of_trim (subL_lt hp a b)
theorem addN_nz {p : Nat} (hp : 0 < p) (a b : List Nat) : Nz p (addN p a b) := Nz.of_trim (addL_lt hp a b)

theorem remN_nz {p : Nat} {iv : Nat → Nat} (h : FdP p iv) {a b : List Nat} (ha : Nz p a) (hb : Nz p b) (hb0 : 0 < b.length) : Nz p (remN iv p a b) ∧ (remN iv p a b).length < b.length :=
  ⟨(h.div ha hb hb0).2.1, (h.div ha hb hb0).2.2.1⟩

theorem divN_len (iv : Nat → Nat) (p : Nat) (a b : List Nat) : (divN iv p a b).1.length ≤ a.length ∧ (divN iv p a b).2.length ≤ a.length := by
  unfold divN
  split
  · exact ⟨Nat.zero_le _, Nat.le_refl _⟩
  · obtain ⟨h1, h2⟩ := length_divO p (iv (b.getD (b.length - 1) 0)) b (a.length - (b.length - 1)) (List.replicate (a.length - (b.length - 1)) 0, a)
    have h1 : _ = (List.replicate (a.length - (b.length - 1)) 0).length := h1
    have h2 : _ = a.length := h2
    rw [List.length_replicate] at h1
    show (trimN _).length ≤ _ ∧ (trimN _).length ≤ _
    rw [length_trimN, length_trimN]
    have t1 := trimL_le (divO p (iv (b.getD (b.length - 1) 0)) b (a.length - (b.length - 1)) (List.replicate (a.length - (b.length - 1)) 0, a)).1 (divO p (iv (b.getD (b.length - 1) 0)) b (a.length - (b.length - 1)) (List.replicate (a.length - (b.length - 1)) 0, a)).1.length
    have t2 := trimL_le (divO p (iv (b.getD (b.length - 1) 0)) b (a.length - (b.length - 1)) (List.replicate (a.length - (b.length - 1)) 0, a)).2 (divO p (iv (b.getD (b.length - 1) 0)) b (a.length - (b.length - 1)) (List.replicate (a.length - (b.length - 1)) 0, a)).2.length
    omega

/-! ### greatest common divisors -/

def gcdF (iv : Nat → Nat) (p : Nat) : Nat → List Nat → List Nat → List Nat
  | 0, a, _ => a
  | f + 1, a, b => if b.length = 0 then a else gcdF iv p f b (remN iv p a b)

def monicF (iv : Nat → Nat) (p : Nat) (a : List Nat) : List Nat := trimN (scaleL p a (iv (a.getD (a.length - 1) 0)))

def gcdN (iv : Nat → Nat) (p : Nat) (a b : List Nat) : List Nat := monicF iv p (gcdF iv p ((normN p b).length + 1) (normN p a) (normN p b))

theorem gcdF_nz {p : Nat} {iv : Nat → Nat} (h : FdP p iv) : ∀ (f : Nat) (a b : List Nat), Nz p a → Nz p b → Nz p (gcdF iv p f a b)
  | 0, _, _, ha, _ => ha
  | f + 1, a, b, ha, hb => by
    unfold gcdF
    split
    · exact ha
    · exact gcdF_nz h f _ _ hb (remN_nz h ha hb (by omega)).1

theorem gcdF_len {p : Nat} {iv : Nat → Nat} (h : FdP p iv) : ∀ (f : Nat) (a b : List Nat) (m : Nat), Nz p a → Nz p b → a.length ≤ m → b.length ≤ m → (gcdF iv p f a b).length ≤ m
  | 0, _, _, _, _, _, h1, _ => h1
  | f + 1, a, b, m, ha, hb, h1, h2 => by
    unfold gcdF
    split
    · exact h1
    · have := remN_nz h ha hb (by omega)
      exact gcdF_len h f _ _ m hb this.1 h2 (by omega)

/-- With more steps than are needed it is the same. -/
theorem gcdF_more {p : Nat} {iv : Nat → Nat} (h : FdP p iv) : ∀ (f g : Nat) (a b : List Nat), Nz p a → Nz p b → b.length ≤ f → b.length ≤ g → gcdF iv p f a b = gcdF iv p g a b
  | 0, 0, _, _, _, _, _, _ => rfl
  | 0, g + 1, a, b, _, _, h1, _ => by
    unfold gcdF
    rw [if_pos (by omega)]
  | f + 1, 0, a, b, _, _, _, h2 => by
    unfold gcdF
    rw [if_pos (by omega)]
  | f + 1, g + 1, a, b, ha, hb, h1, h2 => by
    unfold gcdF
    split
    · rfl
    · have := remN_nz h ha hb (by omega)
      exact gcdF_more h f g _ _ hb this.1 (by omega) (by omega)

/-! ### the two polynomials -/

def extF (iv : Nat → Nat) (p : Nat) : Nat → List Nat → List Nat → List Nat → List Nat → List Nat × List Nat
  | 0, r, s, _, _ => (r, s)
  | f + 1, r, s, x, y => if x.length = 0 then (r, s) else extF iv p f x y (remN iv p r x) (subN p s (timesN p (divN iv p r x).1 y))

theorem extF_nz {p : Nat} {iv : Nat → Nat} (h : FdP p iv) : ∀ (f : Nat) (r s x y : List Nat), Nz p r → Nz p s → Nz p x → Nz p y → Nz p (extF iv p f r s x y).1 ∧ Nz p (extF iv p f r s x y).2
  | 0, _, _, _, _, hr, hs, _, _ => ⟨hr, hs⟩
  | f + 1, r, s, x, y, hr, hs, hx, hy => by
    unfold extF
    split
    · exact ⟨hr, hs⟩
    · exact extF_nz h f _ _ _ _ hx hy (remN_nz h hr hx (by omega)).1 (subN_nz h.pos _ _)

/-- The divisor is none of 0, and no longer than b. -/
theorem extF_len {p : Nat} {iv : Nat → Nat} (h : FdP p iv) : ∀ (f : Nat) (r s x y : List Nat) (m : Nat), x.length ≤ f → Nz p r → Nz p s → Nz p x → Nz p y → x.length ≤ m → (x.length = 0 → r.length ≤ m ∧ 0 < r.length) → (extF iv p f r s x y).1.length ≤ m ∧ 0 < (extF iv p f r s x y).1.length
  | 0, _, _, _, _, m, hf, _, _, _, _, _, h0 => h0 (by omega)
  | f + 1, r, s, x, y, m, hf, hr, hs, hx, hy, hm, h0 => by
    unfold extF
    split
    · rename_i e; exact h0 e
    · have := remN_nz h hr hx (by omega)
      exact extF_len h f _ _ _ _ m (by omega) hx hy this.1 (subN_nz h.pos _ _) (by omega) fun _ => ⟨hm, by omega⟩

/-- A quotient is none of 0, if what is divided is as long. -/
theorem quot_pos {p : Nat} {iv : Nat → Nat} (h : FdP p iv) {a b : List Nat} (ha : Nz p a) (hb : Nz p b) (hb0 : 0 < b.length) (hl : b.length ≤ a.length) : 0 < (divN iv p a b).1.length := by
  obtain ⟨h1, h2, h3, h4⟩ := h.div ha hb hb0
  rcases Nat.eq_zero_or_pos (divN iv p a b).1.length with e | e
  · exfalso
    have hq : (divN iv p a b).1 = [] := List.eq_nil_of_length_eq_zero e
    have : (divN iv p a b).2 = a := h2.ext_ph ha fun s k => by
      have := h4 s k
      rw [hq] at this
      refine (cg.of_eq ?_).trans this
      show _ = (0 : Int) + _
      omega
    rw [this] at h3
    omega
  · exact e

/-! ### back -/

/-- A polynomial is q times another one, and what is left. -/
theorem FdP.back {p : Nat} {iv : Nat → Nat} (h : FdP p iv) {a b : List Nat} (ha : Nz p a) (hb : Nz p b) (hb0 : 0 < b.length) : addN p (timesN p (divN iv p a b).1 b) (divN iv p a b).2 = a := by
  obtain ⟨h1, h2, h3, h4⟩ := h.div ha hb hb0
  refine (addN_nz h.pos _ _).ext_ph ha fun s k => ?_
  refine (ph_addN h.pos s _ _ k).trans (cg.trans (cg.add ?_ (cg.refl _)) (h4 s k))
  unfold timesN
  rw [ph_trim]
  exact ph_one s _ b k

theorem ph_timesN {p : Nat} (s : Nat → Int) (a b : List Nat) (k : Nat) : cg p (ph s (timesN p a b) k) (pr s a b k) := by
  unfold timesN
  rw [ph_trim]
  exact ph_one s a b k

/-- A quotient is known by what it makes. -/
theorem FdP.quot {p : Nat} {iv : Nat → Nat} (h : FdP p iv) {a b q r : List Nat} (ha : Nz p a) (hb : Nz p b) (hb0 : 0 < b.length) (hq : Nz p q) (hr : Nz p r) (hl : r.length < b.length) (he : ∀ s k, cg p (pr s q b k + ph s r k) (ph s a k)) : divN iv p a b = (q, r) := by
  obtain ⟨h1, h2, h3, h4⟩ := h.div ha hb hb0
  obtain ⟨u1, u2⟩ := div_unique hb0 (h.top hb hb0) h1.lt hq.lt h2.lt hr.lt h3 hl fun s k => (h4 s k).trans (he s k).symm
  exact Prod.ext (h1.ext hq u1) (h2.ext hr u2)

/-- A product is divided by its factor without anything left. -/
theorem FdP.exact {p : Nat} {iv : Nat → Nat} (h : FdP p iv) {a b : List Nat} (ha : Nz p a) (hb : Nz p b) (hb0 : 0 < b.length) : divN iv p (timesN p a b) b = (a, []) :=
  h.quot (timesN_nz h.pos a b) hb hb0 ha (Nz.nil h.pos) (by simpa using hb0) fun s k => by
    refine cg.trans (cg.of_eq ?_) (ph_timesN s a b k).symm
    show _ + (0 : Int) = _
    omega

theorem pr_comm (s : Nat → Int) (a b : List Nat) (k : Nat) : pr s a b k = pr s b a k := by
  unfold pr ph
  have e1 : S (fun j => ((a.getD j 0 : Nat) : Int) * S (fun i => ((b.getD i 0 : Nat) : Int) * s (k + j + i)) b.length) a.length = S (fun j => S (fun i => ((a.getD j 0 : Nat) : Int) * (((b.getD i 0 : Nat) : Int) * s (k + j + i))) b.length) a.length :=
    S_congr fun j _ => (S_mul _ _ _).symm
  have e2 : S (fun i => ((b.getD i 0 : Nat) : Int) * S (fun j => ((a.getD j 0 : Nat) : Int) * s (k + i + j)) a.length) b.length = S (fun i => S (fun j => ((b.getD i 0 : Nat) : Int) * (((a.getD j 0 : Nat) : Int) * s (k + i + j))) a.length) b.length :=
    S_congr fun j _ => (S_mul _ _ _).symm
  show S (fun j => ((a.getD j 0 : Nat) : Int) * S (fun i => ((b.getD i 0 : Nat) : Int) * s (k + j + i)) b.length) a.length = S (fun i => ((b.getD i 0 : Nat) : Int) * S (fun j => ((a.getD j 0 : Nat) : Int) * s (k + i + j)) a.length) b.length
  rw [e1, e2, S_swap]
  refine S_congr fun i _ => S_congr fun j _ => ?_
  rw [show k + j + i = k + i + j by omega, Int.mul_left_comm]

theorem timesN_comm {p : Nat} (hp : 0 < p) (a b : List Nat) : timesN p a b = timesN p b a :=
  (timesN_nz hp a b).ext_ph (timesN_nz hp b a) fun s k => (ph_timesN s a b k).trans ((cg.of_eq (pr_comm s a b k)).trans (ph_timesN s b a k).symm)

/-! ### how long they are -/

theorem quot_len (iv : Nat → Nat) (p : Nat) (a b : List Nat) : (divN iv p a b).1.length ≤ a.length - (b.length - 1) := by
  unfold divN
  split
  · exact Nat.zero_le _
  · have h1 := (length_divO p (iv (b.getD (b.length - 1) 0)) b (a.length - (b.length - 1)) (List.replicate (a.length - (b.length - 1)) 0, a)).1
    have h1 : _ = (List.replicate (a.length - (b.length - 1)) 0).length := h1
    rw [List.length_replicate] at h1
    show (trimN _).length ≤ _
    rw [length_trimN]
    have t1 := trimL_le (divO p (iv (b.getD (b.length - 1) 0)) b (a.length - (b.length - 1)) (List.replicate (a.length - (b.length - 1)) 0, a)).1 (divO p (iv (b.getD (b.length - 1) 0)) b (a.length - (b.length - 1)) (List.replicate (a.length - (b.length - 1)) 0, a)).1.length
    omega

theorem quot_short (iv : Nat → Nat) (p : Nat) (a b : List Nat) (h : a.length < b.length) : (divN iv p a b).1.length = 0 := by
  unfold divN
  rw [if_pos h]
  rfl

theorem timesN_len (p : Nat) (a b : List Nat) : (timesN p a b).length ≤ if a.length = 0 ∨ b.length = 0 then 0 else a.length + b.length - 1 := by
  rw [← length_oneN' p a b]
  unfold timesN
  rw [length_trimN]
  exact trimL_le _ _

theorem subN_len (p : Nat) (a b : List Nat) : (subN p a b).length ≤ max a.length b.length := by
  unfold subN
  rw [length_trimN, ← length_subL p]
  exact trimL_le _ _

/-- One step keeps the lengths. -/
theorem ext_step {p : Nat} {iv : Nat → Nat} {r s x y : List Nat} {K : Nat} (hx : 0 < x.length) (h1 : y.length + r.length ≤ K) (h2 : s.length + x.length ≤ K) :
    (subN p s (timesN p (divN iv p r x).1 y)).length + x.length ≤ K ∧ y.length + (remN iv p r x).length ≤ K := by
  have l1 := subN_len p s (timesN p (divN iv p r x).1 y)
  have l2 := timesN_len p (divN iv p r x).1 y
  have l3 := quot_len iv p r x
  have l4 := (divN_len iv p r x).2
  have l4 : (remN iv p r x).length ≤ r.length := l4
  rcases Nat.lt_or_ge r.length x.length with h | h
  · have l5 := quot_short iv p r x h
    rw [if_pos (.inl l5)] at l2
    omega
  · split at l2 <;> omega

theorem extF_bd {p : Nat} {iv : Nat → Nat} (K : Nat) : ∀ (f : Nat) (r s x y : List Nat), y.length + r.length ≤ K → s.length + x.length ≤ K → (extF iv p f r s x y).1.length ≤ K ∧ (extF iv p f r s x y).2.length ≤ K
  | 0, r, s, _, _, h1, h2 => ⟨by show r.length ≤ K; omega, by show s.length ≤ K; omega⟩
  | f + 1, r, s, x, y, h1, h2 => by
    unfold extF
    split
    · exact ⟨by show r.length ≤ K; omega, by show s.length ≤ K; omega⟩
    · have := ext_step (p := p) (iv := iv) (by omega : 0 < x.length) h1 h2
      exact extF_bd K f _ _ _ _ this.1 this.2

theorem monicF_nz {p : Nat} {iv : Nat → Nat} (hp : 0 < p) (a : List Nat) : Nz p (monicF iv p a) := Nz.of_trim (scaleL_lt hp _ _)

theorem monicF_len {p : Nat} {iv : Nat → Nat} (a : List Nat) : (monicF iv p a).length ≤ a.length := by
  unfold monicF
  rw [length_trimN]
  exact Nat.le_trans (trimL_le _ _) (by rw [length_scaleL]; exact Nat.le_refl _)

theorem monicF_top {p : Nat} {iv : Nat → Nat} (h : FdP p iv) {a : List Nat} (ha : Nz p a) (h0 : 0 < a.length) : (monicF iv p a).getD (a.length - 1) 0 = 1 := by
  unfold monicF
  rw [getD_trim, getD_scaleL h.pos, h.inv _ (by rw [Nat.mod_eq_of_lt (ha.lt _)]; exact ha.last h0)]
  exact Nat.mod_eq_of_lt h.prime.1

theorem monicF_pos {p : Nat} {iv : Nat → Nat} (h : FdP p iv) {a : List Nat} (ha : Nz p a) (h0 : 0 < a.length) : 0 < (monicF iv p a).length := by
  have h1 := monicF_top h ha h0
  rcases Nat.eq_zero_or_pos (monicF iv p a).length with e | e
  · rw [getD_ge (by omega)] at h1
    omega
  · exact e

/-- What Ext answers, of polynomials without 0 at their ends. -/
def extR (iv : Nat → Nat) (p : Nat) (a b : List Nat) : List Nat × List Nat × List Nat :=
  if b.length = 0 then (if a.length = 0 then ([], [], []) else (monicF iv p a, [iv (a.getD (a.length - 1) 0)], []))
  else
    let r := (extF iv p (b.length + 1) a [1] b []).1
    let s := (extF iv p (b.length + 1) a [1] b []).2
    let g := monicF iv p r
    let s2 := remN iv p (trimN (scaleL p s (iv (r.getD (r.length - 1) 0)))) (divN iv p b g).1
    (g, s2, (divN iv p (subN p g (timesN p s2 a)) b).1)

/-- Powers stay short. -/
theorem powOk_nz {p : Nat} {iv : Nat → Nat} (h : FdP p iv) {b : List Nat} (hb : Nz p b) (hb0 : 0 < b.length) (hl : b.length ≤ 17) : ∀ (f n : Nat) (out a : List Nat), n < 2 ^ f → out.length ≤ 16 → a.length ≤ 16 → powOk iv p b f n out a
  | 0, n, _, _, hn, _, _ => by
    show n = 0
    simpa using hn
  | f + 1, n, out, a, hn, ho, ha => by
    have h1 := (remN_nz h (timesN_nz h.pos out a) hb hb0).2
    have h2 := (remN_nz h (timesN_nz h.pos a a) hb hb0).2
    refine .inr ⟨ho, ha, powOk_nz h hb hb0 hl f _ _ _ (by rw [Nat.pow_succ] at hn; omega) ?_ (by omega)⟩
    split
    · omega
    · exact ho

theorem powF_len {p : Nat} {iv : Nat → Nat} (h : FdP p iv) {b : List Nat} (hb : Nz p b) (hb0 : 0 < b.length) : ∀ (f n : Nat) (out a : List Nat), out.length ≤ b.length → (powF iv p b f n out a).length ≤ b.length
  | 0, _, _, _, ho => ho
  | f + 1, n, out, a, ho => by
    unfold powF
    split
    · exact ho
    · refine powF_len h hb hb0 f _ _ _ ?_
      split
      · have := (remN_nz h (timesN_nz h.pos out a) hb hb0).2
        omega
      · exact ho

end Vinc.Num
