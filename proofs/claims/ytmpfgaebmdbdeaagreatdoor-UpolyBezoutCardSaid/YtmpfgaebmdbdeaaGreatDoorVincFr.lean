/- Powers modulo a rule's polynomial tell the numbers of a row. -/
import Derived.Test.YtmpfgaebmdbdeaaGreatDoorVincBm
set_option linter.unusedSimpArgs false
set_option linter.unusedVariables false
namespace Vinc.Num

/-- What a polynomial makes of a row, from a place on. -/
def ph (s : Nat → Int) (a : List Nat) (k : Nat) : Int := S (fun j => (a.getD j 0 : Nat) * s (k + j)) a.length

theorem ph_set (s : Nat → Int) (a : List Nat) (k i v : Nat) (hi : i < a.length) : ph s (a.set i v) k = ph s a k + ((v : Int) - (a.getD i 0 : Nat)) * s (k + i) := by
  unfold ph
  rw [List.length_set, S_upd (k := i) (g := fun j => ((a.getD j 0 : Nat) : Int) * s (k + j)) hi]
  · rw [getD_set _ _ _ _ hi, if_pos rfl, Int.sub_mul]
  · intro j _ hj
    rw [getD_set _ _ _ _ hi, if_neg hj]

/-- Numbers with 0 behind them. -/
theorem ph_more (s : Nat → Int) (a : List Nat) (k n : Nat) (hn : a.length ≤ n) : ph s a k = S (fun j => (a.getD j 0 : Nat) * s (k + j)) n := by
  unfold ph
  rw [S_more hn]
  intro j hj _
  rw [List.getD_eq_getElem?_getD, List.getElem?_eq_none hj]
  simp

theorem ph_rep (s : Nat → Int) (n k : Nat) : ph s (List.replicate n 0) k = 0 := by
  unfold ph
  exact S_zero fun i _ => by rw [getD_rep]; simp

theorem trimL_zero (a : List Nat) : ∀ n j, trimL a n ≤ j → j < n → a.getD j 0 = 0
  | 0, _, _, h => by omega
  | n + 1, j, h1, h2 => by
    unfold trimL at h1
    split at h1
    · rename_i h0
      by_cases e : j = n
      · rw [e]; exact h0
      · exact trimL_zero a n j h1 (by omega)
    · omega

theorem ph_trim (s : Nat → Int) (a : List Nat) (k : Nat) : ph s (trimN a) k = ph s a k := by
  have h1 := trimL_le a a.length
  have hl : (trimN a).length = trimL a a.length := by unfold trimN; rw [List.length_take]; omega
  unfold ph
  rw [hl, S_more (f := fun j => (a.getD j 0 : Nat) * s (k + j)) h1]
  · refine S_congr fun j hj => ?_
    unfold trimN
    rw [List.getD_eq_getElem?_getD, List.getD_eq_getElem?_getD, List.getElem?_take_of_lt hj]
  · intro j hj hj2
    rw [trimL_zero a a.length j hj hj2]
    simp

theorem ph_mod {p : Nat} (s : Nat → Int) (a : List Nat) (k : Nat) : cg p (ph s (a.map (· % p)) k) (ph s a k) := by
  unfold ph
  rw [List.length_map]
  refine S_cg fun j hj => ?_
  have e : (a.map (· % p)).getD j 0 = a.getD j 0 % p := by simp [List.getD_eq_getElem?_getD, hj]
  rw [e]
  exact (cg.mod _).mul (cg.refl _)

theorem ph_norm {p : Nat} (s : Nat → Int) (a : List Nat) (k : Nat) : cg p (ph s (normN p a) k) (ph s a k) := by
  unfold normN
  rw [ph_trim]
  exact ph_mod s a k

theorem ph_oneI {p : Nat} (s : Nat → Int) (x : Nat) (b : List Nat) (i : Nat) (out : List Nat) (k : Nat) (hl : i + b.length ≤ out.length) : ∀ n, n ≤ b.length →
    cg p (ph s (oneI p x b i out n) k) (ph s out k + x * S (fun j => (b.getD j 0 : Nat) * s (k + i + j)) n)
  | 0, _ => by
    show cg p (ph s out k) (ph s out k + x * 0)
    rw [Int.mul_zero, Int.add_zero]
    exact cg.refl _
  | n + 1, hn => by
    have ih := ph_oneI (p := p) s x b i out k hl n (by omega)
    have hlen := length_oneI p x b i out n
    unfold oneI
    generalize oneI p x b i out n = o at ih hlen ⊢
    rw [ph_set _ _ _ _ _ (by omega)]
    have h1 : cg p (((o.getD (i + n) 0 + x * b.getD n 0 % p) % p : Nat) - ((o.getD (i + n) 0 : Nat) : Int)) ((x : Int) * (b.getD n 0 : Nat)) := by
      refine ((cg.mod _).sub (cg.refl _)).trans ?_
      rw [Int.natCast_add]
      have h2 := cg.mod (p := p) (x * b.getD n 0)
      rw [Int.natCast_mul] at h2
      have e : ((o.getD (i + n) 0 : Nat) : Int) + ((x * b.getD n 0 % p : Nat) : Int) - ((o.getD (i + n) 0 : Nat) : Int) = ((x * b.getD n 0 % p : Nat) : Int) := by omega
      rw [e]
      exact h2
    refine (ih.add (h1.mul (cg.refl (s (k + (i + n)))))).trans (cg.of_eq ?_)
    show _ = _ + (x : Int) * (S _ n + (b.getD n 0 : Nat) * s (k + i + n))
    rw [Int.mul_add, Int.mul_assoc, show k + (i + n) = k + i + n by omega]
    omega

theorem ph_oneO {p : Nat} (s : Nat → Int) (a b : List Nat) (k : Nat) (hb : 0 < b.length) : ∀ n, n ≤ a.length → cg p (ph s (oneO p a b n) k) (S (fun i => (a.getD i 0 : Nat) * ph s b (k + i)) n)
  | 0, _ => by
    show cg p (ph s (List.replicate (a.length + b.length - 1) 0) k) 0
    rw [ph_rep]
    exact cg.refl _
  | n + 1, hn => by
    have ih := ph_oneO (p := p) s a b k hb n (by omega)
    have h := ph_oneI (p := p) s (a.getD n 0) b n (oneO p a b n) k (by rw [length_oneO]; omega) b.length (Nat.le_refl _)
    exact h.trans (ih.add (cg.refl _))

theorem ph_times {p : Nat} (s : Nat → Int) (a b : List Nat) (k : Nat) : cg p (ph s (timesN p a b) k) (S (fun i => (a.getD i 0 : Nat) * ph s b (k + i)) a.length) := by
  unfold timesN
  rw [ph_trim]
  unfold oneN
  split
  · rename_i h
    have e : S (fun i => ((a.getD i 0 : Nat) : Int) * ph s b (k + i)) a.length = 0 := by
      rcases h with h | h
      · rw [h]; rfl
      · refine S_zero fun i _ => ?_
        have : ph s b (k + i) = 0 := by unfold ph; rw [h]; rfl
        rw [this, Int.mul_zero]
    rw [e]
    exact cg.refl _
  · rename_i h
    exact ph_oneO s a b k (by omega) a.length (Nat.le_refl _)

/-- A polynomial that is so many places on. -/
def Sh (p : Nat) (s : Nat → Int) (a : List Nat) (m : Nat) : Prop := ∀ k, cg p (ph s a k) (s (k + m))

theorem Sh.times {p : Nat} {s : Nat → Int} {a b : List Nat} {m n : Nat} (ha : Sh p s a m) (hb : Sh p s b n) : Sh p s (timesN p a b) (m + n) := fun k => by
  refine (ph_times s a b k).trans ?_
  have h1 : cg p (S (fun i => (a.getD i 0 : Nat) * ph s b (k + i)) a.length) (S (fun i => (a.getD i 0 : Nat) * s (k + n + i)) a.length) := S_cg fun i _ => (cg.refl _).mul (by
    have := hb (k + i)
    rw [show k + i + n = k + n + i by omega] at this
    exact this)
  have h2 := ha (k + n)
  rw [show k + n + m = k + (m + n) by omega] at h2
  exact h1.trans h2

theorem ph_divI {p : Nat} (hp : 0 < p) (s : Nat → Int) (q : Nat) (b : List Nat) (i : Nat) (left : List Nat) (k : Nat) (hl : i + b.length ≤ left.length) : ∀ n, n ≤ b.length →
    cg p (ph s (divI p q b i left n) k) (ph s left k - q * S (fun j => (b.getD j 0 : Nat) * s (k + i + j)) n)
  | 0, _ => by
    show cg p (ph s left k) (ph s left k - q * 0)
    rw [Int.mul_zero, Int.sub_zero]
    exact cg.refl _
  | n + 1, hn => by
    have ih := ph_divI hp s q b i left k hl n (by omega)
    have hlen := length_divI p q b i left n
    unfold divI
    generalize divI p q b i left n = o at ih hlen ⊢
    rw [ph_set _ _ _ _ _ (by omega)]
    have h1 : cg p ((sb (o.getD (i + n) 0) (q * b.getD n 0 % p) p : Nat) - ((o.getD (i + n) 0 : Nat) : Int)) (-((q : Int) * (b.getD n 0 : Nat))) := by
      refine ((cg.sb hp _ _).sub (cg.refl _)).trans ?_
      have h2 := (cg.mod (p := p) (q * b.getD n 0)).neg
      rw [Int.natCast_mul] at h2
      have e : ((o.getD (i + n) 0 : Nat) : Int) - ((q * b.getD n 0 % p : Nat) : Int) - ((o.getD (i + n) 0 : Nat) : Int) = -((q * b.getD n 0 % p : Nat) : Int) := by omega
      rw [e]
      exact h2
    refine (ih.add (h1.mul (cg.refl (s (k + (i + n)))))).trans (cg.of_eq ?_)
    show _ = _ - (q : Int) * (S _ n + (b.getD n 0 : Nat) * s (k + i + n))
    rw [Int.mul_add, Int.neg_mul, Int.mul_assoc, show k + (i + n) = k + i + n by omega]
    omega

theorem ph_divO {p : Nat} (hp : 0 < p) (s : Nat → Int) (inv : Nat) (b : List Nat) (hb : 0 < b.length) (hs : ∀ k, cg p (ph s b k) 0) (k : Nat) : ∀ (n : Nat) (q left : List Nat), n + (b.length - 1) ≤ left.length → cg p (ph s (divO p inv b n (q, left)).2 k) (ph s left k)
  | 0, _, _, _ => cg.refl _
  | n + 1, q, left, hl => by
    show cg p (ph s (divO p inv b n (q.set n _, divI p (left.getD (n + (b.length - 1)) 0 * inv % p) b n left b.length)).2 k) _
    generalize left.getD (n + (b.length - 1)) 0 * inv % p = qi
    have h1 := ph_divI hp s qi b n left k (by omega) b.length (Nat.le_refl _)
    have h2 : cg p (ph s left k - qi * S (fun j => ((b.getD j 0 : Nat) : Int) * s (k + n + j)) b.length) (ph s left k) := by
      have := (cg.refl (ph s left k)).sub ((cg.refl (qi : Int)).mul (hs (k + n)))
      rw [Int.mul_zero, Int.sub_zero] at this
      exact this
    exact (ph_divO hp s inv b hb hs k n _ _ (by rw [length_divI]; omega)).trans (h1.trans h2)

theorem ph_rem {p : Nat} (hp : 0 < p) (s : Nat → Int) (iv : Nat → Nat) (a b : List Nat) (hb : 0 < b.length) (hs : ∀ k, cg p (ph s b k) 0) (k : Nat) : cg p (ph s (remN iv p a b) k) (ph s a k) := by
  unfold remN divN
  split
  · exact cg.refl _
  · show cg p (ph s (trimN _) k) _
    rw [ph_trim]
    exact ph_divO hp s _ b hb hs k _ _ _ (by omega)

theorem Sh.rem {p : Nat} (hp : 0 < p) {s : Nat → Int} (iv : Nat → Nat) {a b : List Nat} {m : Nat} (hb : 0 < b.length) (hs : ∀ k, cg p (ph s b k) 0) (ha : Sh p s a m) : Sh p s (remN iv p a b) m :=
  fun k => (ph_rem hp s iv a b hb hs k).trans (ha k)

theorem Sh.pow {p : Nat} (hp : 0 < p) {s : Nat → Int} (iv : Nat → Nat) {b : List Nat} (hb : 0 < b.length) (hs : ∀ k, cg p (ph s b k) 0) : ∀ (f n : Nat) (out a : List Nat) (u v : Nat), n < 2 ^ f → Sh p s out u → Sh p s a v → Sh p s (powF iv p b f n out a) (u + v * n)
  | 0, n, out, a, u, v, hn, ho, ha => by
    obtain rfl : n = 0 := by simpa using hn
    rw [Nat.mul_zero, Nat.add_zero]
    exact ho
  | f + 1, n, out, a, u, v, hn, ho, ha => by
    unfold powF
    split
    · rename_i h
      rw [h, Nat.mul_zero, Nat.add_zero]
      exact ho
    · have hn2 : n / 2 < 2 ^ f := by rw [Nat.pow_succ] at hn; omega
      have ha2 : Sh p s (remN iv p (timesN p a a) b) (v + v) := (ha.times ha).rem hp iv hb hs
      have hd := Nat.div_add_mod n 2
      by_cases h1 : n % 2 = 1
      · rw [if_pos h1]
        have := Sh.pow hp iv hb hs f (n / 2) _ _ (u + v) (v + v) hn2 ((ho.times ha).rem hp iv hb hs) ha2
        have e : u + v + (v + v) * (n / 2) = u + v * n := by
          have : v * n = v * (2 * (n / 2) + n % 2) := by rw [hd]
          rw [this, h1, Nat.mul_add, Nat.add_mul, Nat.mul_one, ← Nat.mul_assoc, Nat.mul_comm v 2, Nat.two_mul, Nat.add_mul]; omega
        rwa [e] at this
      · rw [if_neg h1]
        have := Sh.pow hp iv hb hs f (n / 2) _ _ u (v + v) hn2 ho ha2
        have e : u + (v + v) * (n / 2) = u + v * n := by
          have : v * n = v * (2 * (n / 2) + n % 2) := by rw [hd]
          rw [this, show n % 2 = 0 by omega, Nat.add_zero, ← Nat.mul_assoc, Nat.mul_comm v 2, Nat.two_mul]
        rwa [e] at this

/-! ### what is left is short -/

theorem trimL_le_of (a : List Nat) (m : Nat) : ∀ n, m ≤ n → (∀ j, m ≤ j → j < n → a.getD j 0 = 0) → trimL a n ≤ m
  | 0, _, _ => Nat.zero_le m
  | n + 1, h, hz => by
    by_cases e : m = n + 1
    · rw [e]; exact trimL_le a (n + 1)
    · unfold trimL
      rw [if_pos (hz n (by omega) (by omega))]
      exact trimL_le_of a m n (by omega) fun j h1 h2 => hz j h1 (by omega)

theorem divI_at (p q : Nat) (b : List Nat) (i : Nat) (left : List Nat) : ∀ k, i + k ≤ left.length → ∀ j, (divI p q b i left k).getD j 0 = if i ≤ j ∧ j < i + k then sb (left.getD j 0) (q * b.getD (j - i) 0 % p) p else left.getD j 0
  | 0, _, j => by rw [if_neg (by omega)]; rfl
  | k + 1, h, j => by
    have ih := divI_at p q b i left k (by omega)
    have hl := length_divI p q b i left k
    unfold divI
    rw [getD_set _ _ _ _ (by omega)]
    by_cases e : j = i + k
    · rw [if_pos e, if_pos (by omega), ih, if_neg (by omega), e, show i + k - i = k by omega]
    · rw [if_neg e, ih]
      by_cases h1 : i ≤ j ∧ j < i + k
      · rw [if_pos h1, if_pos (by omega)]
      · rw [if_neg h1, if_neg (by omega)]

theorem sb_self {p : Nat} (hp : 0 < p) (x : Nat) : sb x (x * 1 % p * 1 % p) p = 0 := by
  unfold sb
  have := Nat.mod_lt x hp
  rw [Nat.mul_one, Nat.mul_one, Nat.mod_mod, Nat.mod_mod, show x % p + p - x % p = p by omega, Nat.mod_self]

theorem divO_zero {p : Nat} (hp : 0 < p) (b : List Nat) (hb : 0 < b.length) (h1 : b.getD (b.length - 1) 0 = 1) : ∀ (n : Nat) (q left : List Nat), n + (b.length - 1) ≤ left.length → (∀ j, n + (b.length - 1) ≤ j → j < left.length → left.getD j 0 = 0) →
    ∀ j, b.length - 1 ≤ j → j < left.length → (divO p 1 b n (q, left)).2.getD j 0 = 0
  | 0, q, left, _, hz, j, h2, h3 => hz j (by omega) h3
  | n + 1, q, left, hl, hz, j, h2, h3 => by
    refine divO_zero hp b hb h1 n _ _ (by rw [length_divI]; omega) ?_ j h2 (by rw [length_divI]; exact h3)
    intro i hi hil
    rw [length_divI] at hil
    rw [divI_at _ _ _ _ _ _ (by omega)]
    by_cases e : i = n + (b.length - 1)
    · rw [if_pos (by omega), e, show n + (b.length - 1) - n = b.length - 1 by omega, h1]
      exact sb_self hp _
    · rw [if_neg (by omega)]
      exact hz i (by omega) hil

theorem remN_short {p : Nat} (hp : 0 < p) (iv : Nat → Nat) (hiv : iv 1 = 1) (a b : List Nat) (hb : 0 < b.length) (h1 : b.getD (b.length - 1) 0 = 1) : (remN iv p a b).length ≤ b.length - 1 := by
  unfold remN divN
  split
  · show a.length ≤ _
    omega
  · rename_i h
    show (trimN _).length ≤ _
    have hlen := (length_divO p (iv (b.getD (b.length - 1) 0)) b (a.length - (b.length - 1)) (List.replicate (a.length - (b.length - 1)) 0, a)).2
    have hlen : _ = a.length := hlen
    rw [h1, hiv] at hlen ⊢
    unfold trimN
    rw [List.length_take, hlen]
    have := trimL_le_of (divO p 1 b (a.length - (b.length - 1)) (List.replicate (a.length - (b.length - 1)) 0, a)).2 (b.length - 1) a.length (by omega)
      (fun j h2 h3 => divO_zero hp b hb h1 _ _ a (by omega) (fun j h4 h5 => by omega) j h2 h3)
    omega

theorem powOk_all {iv : Nat → Nat} {p : Nat} {b : List Nat} (hr : ∀ a, (remN iv p a b).length ≤ 16) : ∀ (f n : Nat) (out a : List Nat), n < 2 ^ f → out.length ≤ 16 → a.length ≤ 16 → powOk iv p b f n out a
  | 0, n, _, _, hn, _, _ => by
    show n = 0
    simpa using hn
  | f + 1, n, out, a, hn, ho, ha => by
    refine .inr ⟨ho, ha, powOk_all hr f _ _ _ (by rw [Nat.pow_succ] at hn; omega) ?_ (hr _)⟩
    split
    · exact hr _
    · exact ho

theorem powF_short {iv : Nat → Nat} {p : Nat} {b : List Nat} {m : Nat} (hr : ∀ a, (remN iv p a b).length ≤ m) : ∀ (f n : Nat) (out a : List Nat), out.length ≤ m → (powF iv p b f n out a).length ≤ m
  | 0, _, _, _, h => h
  | f + 1, n, out, a, h => by
    unfold powF
    split
    · exact h
    · refine powF_short hr f _ _ _ ?_
      split
      · exact hr _
      · exact h

theorem map_mod_id {p : Nat} (a : List Nat) (h : ∀ x, x ∈ a → x < p) : a.map (· % p) = a := by
  induction a with
  | nil => rfl
  | cons x a ih =>
    rw [List.map_cons, ih fun y hy => h y (by simp [hy]), Nat.mod_eq_of_lt (h x (by simp))]

theorem normN_char {p : Nat} (hp : 1 < p) (r : List Nat) : normN p (charN p r) = charN p r := by
  have h1 : (charN p r).map (· % p) = charN p r := map_mod_id _ fun x hx => by
    unfold charN at hx
    rcases List.mem_append.mp hx with hx | hx
    · obtain ⟨y, _, rfl⟩ := List.mem_map.mp hx
      exact Nat.mod_lt _ (by omega)
    · have := List.mem_singleton.mp hx
      omega
  unfold normN
  rw [h1]
  unfold trimN
  rw [length_charN]
  have : trimL (charN p r) (r.length + 1) = r.length + 1 := if_neg (by rw [charN_last]; omega)
  rw [this, ← length_charN p r, List.take_length]

/-! ### the row without an end -/

def sq (p : Nat) (r ms : List Nat) (i : Nat) : Nat := (refMore p r ms (i + 1)).getD i 0

theorem refMore_pre (p : Nat) (r ms : List Nat) (n j : Nat) (hj : j < ms.length + n) : ∀ k, (refMore p r ms (n + k)).getD j 0 = (refMore p r ms n).getD j 0
  | 0 => rfl
  | k + 1 => by
    have ih := refMore_pre p r ms n j hj k
    have hl := length_refMore p r ms (n + k)
    show (refMore p r ms (n + k) ++ [_]).getD j 0 = _
    rw [List.getD_eq_getElem?_getD, List.getElem?_append_left (by omega), ← List.getD_eq_getElem?_getD]
    exact ih

theorem refMore_sq (p : Nat) (r ms : List Nat) (n j : Nat) (hj : j < ms.length + n) : (refMore p r ms n).getD j 0 = sq p r ms j := by
  unfold sq
  rcases Nat.le_total n (j + 1) with h | h
  · have := refMore_pre p r ms n j hj (j + 1 - n)
    rw [show n + (j + 1 - n) = j + 1 by omega] at this
    exact this.symm
  · have := refMore_pre p r ms (j + 1) j (by omega) (n - (j + 1))
    rw [show j + 1 + (n - (j + 1)) = n by omega] at this
    exact this

theorem sq_ms (p : Nat) (r ms : List Nat) (j : Nat) (hj : j < ms.length) : sq p r ms j = ms.getD j 0 := (refMore_sq p r ms 0 j (by omega)).symm

theorem sq_next (p : Nat) (r ms : List Nat) (k : Nat) : sq p r ms (ms.length + k) = refNext p r (refMore p r ms k) := by
  have hl := length_refMore p r ms k
  rw [← refMore_sq p r ms (k + 1) (ms.length + k) (by omega)]
  show (refMore p r ms k ++ [refNext p r (refMore p r ms k)]).getD (ms.length + k) 0 = _
  rw [← hl, List.getD_eq_getElem?_getD]
  simp

theorem nextF_cg {p : Nat} (r row : List Nat) : ∀ n, cg p (nextF p r row n : Nat) (S (fun j => (r.getD j 0 : Nat) * (row.getD (row.length - 1 - j) 0 : Nat)) n)
  | 0 => cg.refl _
  | n + 1 => by
    have ih := nextF_cg (p := p) r row n
    show cg p (((nextF p r row n + r.getD n 0 * row.getD (row.length - 1 - n) 0 % p) % p : Nat) : Int) _
    refine (cg.mod _).trans ?_
    rw [Int.natCast_add]
    refine (ih.add (cg.mod (p := p) (r.getD n 0 * row.getD (row.length - 1 - n) 0))).trans (cg.of_eq ?_)
    rw [Int.natCast_mul]
    rfl

/-- The rule's polynomial makes 0 of the row. -/
theorem ph_char {p : Nat} (hp : 0 < p) (r ms : List Nat) (hl : ms.length = r.length) (k : Nat) : cg p (ph (fun i => (sq p r ms i : Nat)) (charN p r) k) 0 := by
  unfold ph
  rw [length_charN]
  show cg p (S (fun j => ((charN p r).getD j 0 : Nat) * ((sq p r ms (k + j) : Nat) : Int)) r.length + ((charN p r).getD r.length 0 : Nat) * ((sq p r ms (k + r.length) : Nat) : Int)) 0
  rw [charN_last]
  have hn : sq p r ms (k + r.length) = refNext p r (refMore p r ms k) := by rw [Nat.add_comm, ← hl]; exact sq_next p r ms k
  have hyl := length_refMore p r ms k
  have h1 : cg p ((refNext p r (refMore p r ms k) : Nat) : Int) (0 - S (fun j => ((r.getD j 0 : Nat) : Int) * ((sq p r ms (k + r.length - 1 - j) : Nat) : Int)) r.length) := by
    refine (cg.sb hp 0 _).trans ((cg.refl (0 : Int)).sub ((nextF_cg r (refMore p r ms k) r.length).trans (cg.of_eq (S_congr fun j hj => ?_))))
    rw [refMore_sq p r ms k _ (by omega), hyl, hl, Nat.add_comm r.length k]
  have h2 : cg p (S (fun j => ((charN p r).getD j 0 : Nat) * ((sq p r ms (k + j) : Nat) : Int)) r.length) (S (fun j => ((r.getD j 0 : Nat) : Int) * ((sq p r ms (k + r.length - 1 - j) : Nat) : Int)) r.length) := by
    rw [← S_rev (fun j => ((r.getD j 0 : Nat) : Int) * ((sq p r ms (k + r.length - 1 - j) : Nat) : Int))]
    refine S_cg fun j hj => ?_
    rw [charN_at p r j hj, show k + r.length - 1 - (r.length - 1 - j) = k + j by omega]
    exact (cg.mod _).mul (cg.refl _)
  rw [hn]
  have h3 : ((1 : Nat) : Int) * ((refNext p r (refMore p r ms k) : Nat) : Int) = ((refNext p r (refMore p r ms k) : Nat) : Int) := Int.one_mul _
  rw [h3]
  exact (h2.add h1).trans (cg.of_eq (by omega))

theorem farF_cg {p : Nat} (x row : List Nat) : ∀ n, cg p (farF p x row n : Nat) (S (fun j => (x.getD j 0 : Nat) * (row.getD j 0 : Nat)) n)
  | 0 => cg.refl _
  | n + 1 => by
    have ih := farF_cg (p := p) x row n
    show cg p (((farF p x row n + x.getD n 0 * row.getD n 0 % p) % p : Nat) : Int) _
    refine (cg.mod _).trans ?_
    rw [Int.natCast_add]
    refine (ih.add (cg.mod (p := p) (x.getD n 0 * row.getD n 0))).trans (cg.of_eq ?_)
    rw [Int.natCast_mul]
    rfl

theorem farF_lt {p : Nat} (hp : 0 < p) (x row : List Nat) : ∀ n, farF p x row n < p
  | 0 => hp
  | _ + 1 => Nat.mod_lt _ hp

theorem sq_lt {p : Nat} (hp : 0 < p) (r ms : List Nat) (hm : ∀ j, ms.getD j 0 < p) (i : Nat) : sq p r ms i < p := by
  rcases Nat.lt_or_ge i ms.length with h | h
  · rw [sq_ms p r ms i h]; exact hm i
  · have := sq_next p r ms (i - ms.length)
    rw [show ms.length + (i - ms.length) = i by omega] at this
    rw [this]
    exact Nat.mod_lt _ hp

theorem getD_map_mod {p : Nat} (hp : 0 < p) (xs : List Nat) (j : Nat) : (xs.map (· % p)).getD j 0 = xs.getD j 0 % p := by
  rw [List.getD_eq_getElem?_getD, List.getD_eq_getElem?_getD, List.getElem?_map]
  cases xs[j]? with
  | none => exact (Nat.mod_eq_of_lt hp).symm
  | some v => rfl

/-- All of it: the number that Far answers is the row's. -/
theorem far_all {p : Nat} (hp : 1 < p) (iv : Nat → Nat) (hiv : iv 1 = 1) (r row : List Nat) (n : Nat) (hn : n < 18446744073709551616) (hr : r.length ≤ 16) (hl : r.length ≤ row.length) :
    farOk iv p r n ∧ (farX iv p r n).length ≤ r.length ∧ farF p (farX iv p r n) row (farX iv p r n).length = sq p r ((row.take r.length).map (· % p)) n := by
  have hp0 : 0 < p := by omega
  obtain ⟨ms, hms⟩ : ∃ ms, (row.take r.length).map (· % p) = ms := ⟨_, rfl⟩
  have hml : ms.length = r.length := by rw [← hms, List.length_map, List.length_take]; omega
  have hmg : ∀ j, ms.getD j 0 < p := fun j => by rw [← hms, getD_map_mod hp0]; exact Nat.mod_lt _ hp0
  rw [hms]
  have hcl := length_charN p r
  have hc0 : 0 < (charN p r).length := by omega
  have hc1 : (charN p r).getD ((charN p r).length - 1) 0 = 1 := by rw [hcl]; exact charN_last p r
  have hrs : ∀ a, (remN iv p a (charN p r)).length ≤ r.length := fun a => by
    have := remN_short hp0 iv hiv a (charN p r) hc0 hc1
    omega
  have hs := ph_char hp0 r ms hml
  have hx : (farX iv p r n).length ≤ r.length := by
    unfold farX
    rw [normN_char hp]
    exact powF_short hrs _ _ _ _ (hrs _)
  refine ⟨?_, hx, ?_⟩
  · unfold farOk
    rw [normN_char hp]
    exact powOk_all (fun a => by have := hrs a; omega) 64 n _ _ hn (by have := hrs [1]; omega) (by have := hrs (normN p [0, 1]); omega)
  · have h0 : Sh p (fun i => (sq p r ms i : Nat)) [1] 0 := fun k => cg.of_eq (by
      show (0 : Int) + ((1 : Nat) : Int) * ((sq p r ms (k + 0) : Nat) : Int) = _
      rw [Int.zero_add]; exact Int.one_mul _)
    have h1 : Sh p (fun i => (sq p r ms i : Nat)) (normN p [0, 1]) 1 := fun k => (ph_norm _ _ k).trans (cg.of_eq (by
      show (0 : Int) + ((0 : Nat) : Int) * ((sq p r ms (k + 0) : Nat) : Int) + ((1 : Nat) : Int) * ((sq p r ms (k + 1) : Nat) : Int) = ((sq p r ms (k + 1) : Nat) : Int)
      have e0 : ((0 : Nat) : Int) * ((sq p r ms (k + 0) : Nat) : Int) = 0 := Int.zero_mul _
      have e1 : ((1 : Nat) : Int) * ((sq p r ms (k + 1) : Nat) : Int) = ((sq p r ms (k + 1) : Nat) : Int) := Int.one_mul _
      rw [e0, e1]; omega))
    have h2 : Sh p (fun i => (sq p r ms i : Nat)) (farX iv p r n) (0 + 1 * n) := by
      unfold farX
      rw [normN_char hp]
      exact Sh.pow hp0 iv hc0 hs 64 n _ _ 0 1 hn (h0.rem hp0 iv hc0 hs) (h1.rem hp0 iv hc0 hs)
    have h3 := h2 0
    rw [show 0 + (0 + 1 * n) = n by omega] at h3
    refine cg.eq_of_lt ?_ (farF_lt hp0 _ _ _) (sq_lt hp0 r ms hmg n)
    refine (farF_cg _ _ _).trans (cg.trans ?_ h3)
    unfold ph
    refine S_cg fun j hj => (cg.refl _).mul ?_
    show cg p _ ((sq p r ms (0 + j) : Nat) : Int)
    rw [show 0 + j = j by omega, sq_ms p r ms j (by omega), ← hms, getD_map_mod hp0]
    have e : (row.take r.length).getD j 0 = row.getD j 0 := by
      rw [List.getD_eq_getElem?_getD, List.getD_eq_getElem?_getD, List.getElem?_take_of_lt (by omega)]
    rw [e]
    exact (cg.mod _).symm

end Vinc.Num
