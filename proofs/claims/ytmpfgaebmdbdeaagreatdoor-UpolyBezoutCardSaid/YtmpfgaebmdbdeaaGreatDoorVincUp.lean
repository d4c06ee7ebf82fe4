/- Polynomials as lists of coefficients: when two are the same; sums, products, division with what is left. -/
import Derived.Test.YtmpfgaebmdbdeaaGreatDoorVincFr
set_option linter.unusedSimpArgs false
set_option linter.unusedVariables false
namespace Vinc.Num

theorem getD_ge {a : List Nat} {j : Nat} (h : a.length ≤ j) : a.getD j 0 = 0 := by
  rw [List.getD_eq_getElem?_getD, List.getElem?_eq_none h]; rfl

theorem length_trimN (a : List Nat) : (trimN a).length = trimL a a.length := by
  have := trimL_le a a.length
  unfold trimN
  rw [List.length_take]; omega

theorem getD_trim (a : List Nat) (j : Nat) : (trimN a).getD j 0 = a.getD j 0 := by
  rcases Nat.lt_or_ge j (trimL a a.length) with h | h
  · unfold trimN
    rw [List.getD_eq_getElem?_getD, List.getD_eq_getElem?_getD, List.getElem?_take_of_lt h]
  · rw [getD_ge (by rw [length_trimN]; exact h)]
    rcases Nat.lt_or_ge j a.length with h2 | h2
    · exact (trimL_zero a a.length j h h2).symm
    · exact (getD_ge h2).symm

theorem trimL_last (a : List Nat) : ∀ n, trimL a n = 0 ∨ a.getD (trimL a n - 1) 0 ≠ 0
  | 0 => .inl rfl
  | n + 1 => by
    unfold trimL
    split
    · exact trimL_last a n
    · rename_i h; exact .inr h

theorem trimN_len_le {a b : List Nat} (h : ∀ j, a.getD j 0 = b.getD j 0) : (trimN a).length ≤ (trimN b).length := by
  rcases Nat.lt_or_ge (trimN b).length (trimN a).length with h1 | h1
  · exfalso
    rw [length_trimN a] at h1
    rcases trimL_last a a.length with h2 | h2
    · omega
    · apply h2
      rw [h, ← getD_trim b]
      exact getD_ge (by omega)
  · exact h1

theorem trimN_ext {a b : List Nat} (h : ∀ j, a.getD j 0 = b.getD j 0) : trimN a = trimN b :=
  list_eq (Nat.le_antisymm (trimN_len_le h) (trimN_len_le fun j => (h j).symm)) fun j _ => by rw [getD_trim, getD_trim, h]

/-- A polynomial without 0 at its end, its coefficients below p. -/
structure Nz (p : Nat) (a : List Nat) : Prop where
  trim : trimN a = a
  lt : ∀ j, a.getD j 0 < p

theorem trimN_trimN (a : List Nat) : trimN (trimN a) = trimN a := trimN_ext (getD_trim a)

theorem Nz.of_trim {p : Nat} {a : List Nat} (h : ∀ j, a.getD j 0 < p) : Nz p (trimN a) := ⟨trimN_trimN a, fun j => by rw [getD_trim]; exact h j⟩

theorem Nz.norm {p : Nat} (hp : 0 < p) (a : List Nat) : Nz p (normN p a) := Nz.of_trim fun j => by rw [getD_map_mod hp]; exact Nat.mod_lt _ hp

theorem Nz.nil {p : Nat} (hp : 0 < p) : Nz p [] := ⟨rfl, fun j => by rw [getD_ge (Nat.zero_le j)]; exact hp⟩

theorem Nz.norm_eq {p : Nat} {a : List Nat} (h : ∀ j, a.getD j 0 < p) (hp : 0 < p) : normN p a = trimN a := by
  unfold normN
  exact trimN_ext fun j => by rw [getD_map_mod hp, Nat.mod_eq_of_lt (h j)]

theorem Nz.norm_id {p : Nat} (hp : 0 < p) {a : List Nat} (h : Nz p a) : normN p a = a := by rw [Nz.norm_eq h.lt hp, h.trim]

theorem Nz.ext {p : Nat} {a b : List Nat} (ha : Nz p a) (hb : Nz p b) (h : ∀ j, a.getD j 0 = b.getD j 0) : a = b := by
  rw [← ha.trim, ← hb.trim]
  exact trimN_ext h

theorem Nz.last {p : Nat} {a : List Nat} (h : Nz p a) (h0 : 0 < a.length) : a.getD (a.length - 1) 0 ≠ 0 := by
  have hl := length_trimN a
  rw [h.trim] at hl
  rcases trimL_last a a.length with h2 | h2
  · omega
  · rwa [← hl] at h2

theorem Nz.len_le {p : Nat} {a : List Nat} (h : Nz p a) {m : Nat} (hz : ∀ j, m ≤ j → a.getD j 0 = 0) : a.length ≤ m := by
  rcases Nat.lt_or_ge m a.length with h1 | h1
  · exact absurd (hz (a.length - 1) (by omega)) (h.last (by omega))
  · exact h1

/-! ### one coefficient -/

def dl (t : Nat) : Nat → Int := fun i => if i = t then 1 else 0

theorem S_delta (f : Nat → Int) (g : Nat → Nat) (m : Nat) : ∀ n, (∀ j, j < n → (g j = m ↔ j = m)) → S (fun j => f j * dl m (g j)) n = if m < n then f m else 0
  | 0, _ => by simp [S]
  | n + 1, h => by
    show S _ n + f n * dl m (g n) = _
    rw [S_delta f g m n fun j hj => h j (by omega)]
    have hn := h n (by omega)
    unfold dl
    by_cases e : n = m
    · rw [if_pos (hn.mpr e), if_neg (by omega), if_pos (by omega), e]; omega
    · rw [if_neg (fun e' => e (hn.mp e'))]
      by_cases h1 : m < n
      · rw [if_pos h1, if_pos (by omega)]; omega
      · rw [if_neg h1, if_neg (by omega)]; omega

theorem ph_dl (a : List Nat) (t k : Nat) : ph (dl t) a k = if k ≤ t then ((a.getD (t - k) 0 : Nat) : Int) else 0 := by
  unfold ph
  by_cases h : k ≤ t
  · rw [if_pos h]
    have e : S (fun j => ((a.getD j 0 : Nat) : Int) * dl t (k + j)) a.length = S (fun j => ((a.getD j 0 : Nat) : Int) * dl (t - k) ((fun j => j) j)) a.length := S_congr fun j _ => by
      unfold dl
      by_cases h1 : k + j = t
      · rw [if_pos h1, if_pos (show j = t - k by omega)]
      · rw [if_neg h1, if_neg (show ¬ j = t - k by omega)]
    rw [e, S_delta _ (fun j => j) _ _ (fun j _ => Iff.rfl)]
    by_cases h1 : t - k < a.length
    · rw [if_pos h1]
    · rw [if_neg h1, getD_ge (by omega)]; rfl
  · rw [if_neg h]
    exact S_zero fun j _ => by unfold dl; rw [if_neg (by omega), Int.mul_zero]

theorem ph_dl0 (a : List Nat) (t : Nat) : ph (dl t) a 0 = ((a.getD t 0 : Nat) : Int) := by
  rw [ph_dl, if_pos (Nat.zero_le t), Nat.sub_zero]

/-- Two that make the same of every row have the same coefficients. -/
theorem co_eq {p : Nat} {a b : List Nat} (ha : ∀ j, a.getD j 0 < p) (hb : ∀ j, b.getD j 0 < p) (h : ∀ s k, cg p (ph s a k) (ph s b k)) (j : Nat) : a.getD j 0 = b.getD j 0 := by
  have := h (dl j) 0
  rw [ph_dl0, ph_dl0] at this
  exact cg.eq_of_lt this (ha j) (hb j)

theorem Nz.ext_ph {p : Nat} {a b : List Nat} (ha : Nz p a) (hb : Nz p b) (h : ∀ s k, cg p (ph s a k) (ph s b k)) : a = b := ha.ext hb (co_eq ha.lt hb.lt h)

/-- What a product makes of a row. -/
abbrev pr (s : Nat → Int) (q b : List Nat) (k : Nat) : Int := ph (fun i => ph s b i) q k

theorem ph_one {p : Nat} (s : Nat → Int) (a b : List Nat) (k : Nat) : cg p (ph s (oneN p a b) k) (pr s a b k) := by
  have h := ph_times (p := p) s a b k
  unfold timesN at h
  rw [ph_trim] at h
  exact h

/-! ### division: there is one quotient alone -/

theorem div_unique {p : Nat} {b : List Nat} (hb : 0 < b.length) {inv : Nat} (hinv : cg p (((b.getD (b.length - 1) 0 : Nat) : Int) * inv) 1) {q q' r r' : List Nat} (hq : ∀ j, q.getD j 0 < p) (hq' : ∀ j, q'.getD j 0 < p) (hr : ∀ j, r.getD j 0 < p) (hr' : ∀ j, r'.getD j 0 < p)
    (hl : r.length < b.length) (hl' : r'.length < b.length) (h : ∀ s k, cg p (pr s q b k + ph s r k) (pr s q' b k + ph s r' k)) : (∀ j, q.getD j 0 = q'.getD j 0) ∧ ∀ j, r.getD j 0 = r'.getD j 0 := by
  have hqq : ∀ d m, m + d = max q.length q'.length → ∀ j, m ≤ j → q.getD j 0 = q'.getD j 0 := by
    intro d
    induction d with
    | zero => intro m hm j hj; rw [getD_ge (by omega), getD_ge (by omega)]
    | succ d ih =>
      intro m hm j hj
      have ih' := ih (m + 1) (by omega)
      by_cases e : j = m
      · subst e
        have h1 := h (dl (j + (b.length - 1))) 0
        rw [ph_dl0 r, ph_dl0 r', getD_ge (a := r) (by omega), getD_ge (a := r') (by omega)] at h1
        have n1 : pr (dl (j + (b.length - 1))) q b 0 = _ := ph_more _ q 0 (max q.length q'.length) (by omega)
        have n2 : pr (dl (j + (b.length - 1))) q' b 0 = _ := ph_more _ q' 0 (max q.length q'.length) (by omega)
        rw [n1, n2] at h1
        have hs := S_upd (k := j) (f := fun i => ((q.getD i 0 : Nat) : Int) * ph (dl (j + (b.length - 1))) b (0 + i)) (g := fun i => ((q'.getD i 0 : Nat) : Int) * ph (dl (j + (b.length - 1))) b (0 + i)) (n := max q.length q'.length) (by omega) (fun i _ hij => by
          show ((q.getD i 0 : Nat) : Int) * ph (dl (j + (b.length - 1))) b (0 + i) = ((q'.getD i 0 : Nat) : Int) * ph (dl (j + (b.length - 1))) b (0 + i)
          rcases Nat.lt_or_ge i j with h2 | h2
          · have e0 : ph (dl (j + (b.length - 1))) b (0 + i) = 0 := by
              rw [ph_dl, if_pos (by omega), getD_ge (by omega)]; rfl
            rw [e0, Int.mul_zero, Int.mul_zero]
          · rw [ih' i (by omega)])
        rw [hs] at h1
        have e1 : ph (dl (j + (b.length - 1))) b (0 + j) = ((b.getD (b.length - 1) 0 : Nat) : Int) := by
          rw [ph_dl, if_pos (by omega), show j + (b.length - 1) - (0 + j) = b.length - 1 by omega]
        have h2 : cg p ((((q.getD j 0 : Nat) : Int) - (q'.getD j 0 : Nat)) * ((b.getD (b.length - 1) 0 : Nat) : Int)) 0 := by
          have h3 := h1.sub (cg.refl (S (fun i => ((q'.getD i 0 : Nat) : Int) * ph (dl (j + (b.length - 1))) b (0 + i)) (max q.length q'.length)))
          rw [e1] at h3
          refine (cg.of_eq ?_).trans (h3.trans (cg.of_eq ?_))
          · rw [Int.sub_mul]; omega
          · omega
        have h3 := h2.mul (cg.refl (inv : Int))
        rw [Int.zero_mul, Int.mul_assoc] at h3
        have h4 := (cg.refl (((q.getD j 0 : Nat) : Int) - (q'.getD j 0 : Nat))).mul hinv
        rw [Int.mul_one] at h4
        have h5 : cg p ((q.getD j 0 : Nat) : Int) ((q'.getD j 0 : Nat) : Int) := by
          have h6 := (h4.symm.trans h3).add (cg.refl ((q'.getD j 0 : Nat) : Int))
          refine (cg.of_eq ?_).trans (h6.trans (cg.of_eq ?_))
          · omega
          · omega
        exact cg.eq_of_lt h5 (hq j) (hq' j)
      · exact ih' j (by omega)
  have hQ : ∀ j, q.getD j 0 = q'.getD j 0 := fun j => hqq (max q.length q'.length) 0 (by omega) j (Nat.zero_le j)
  refine ⟨hQ, co_eq hr hr' fun s k => ?_⟩
  have e : pr s q b k = pr s q' b k := by
    have n1 : pr s q b k = _ := ph_more _ q k (max q.length q'.length) (by omega)
    have n2 : pr s q' b k = _ := ph_more _ q' k (max q.length q'.length) (by omega)
    rw [n1, n2]
    exact S_congr fun j _ => by rw [hQ j]
  have h1 := h s k
  rw [e] at h1
  have h2 := h1.sub (cg.refl (pr s q' b k))
  refine (cg.of_eq ?_).trans (h2.trans (cg.of_eq ?_)) <;> omega

/-! ### the program's division -/

theorem sb_lt {p : Nat} (hp : 0 < p) (x y : Nat) : sb x y p < p := Nat.mod_lt _ hp

theorem divI_lt {p : Nat} (hp : 0 < p) (q : Nat) (b : List Nat) (i : Nat) (left : List Nat) (h : ∀ j, left.getD j 0 < p) : ∀ k, i + k ≤ left.length → ∀ j, (divI p q b i left k).getD j 0 < p := fun k hk j => by
  rw [divI_at _ _ _ _ _ _ hk]
  split
  · exact sb_lt hp _ _
  · exact h j

theorem sb_top {p : Nat} (hp : 0 < p) {x inv bt : Nat} (h : cg p ((bt : Int) * inv) 1) : sb x (x * inv % p * bt % p) p = 0 := by
  have h1 := cg.sb hp x (x * inv % p * bt % p)
  have h2 : cg p ((x * inv % p * bt % p : Nat) : Int) (x : Int) := by
    refine (cg.mod _).trans ?_
    rw [Int.natCast_mul]
    refine ((cg.mod _).mul (cg.refl _)).trans ?_
    rw [Int.natCast_mul, Int.mul_assoc, Int.mul_comm (inv : Int)]
    have := (cg.refl (x : Int)).mul h
    rwa [Int.mul_one] at this
  have h3 := h1.trans ((cg.refl (x : Int)).sub h2)
  rw [Int.sub_self] at h3
  exact (cg.zero_iff hp (sb_lt hp _ _)).mp h3

theorem divO_all {p : Nat} (hp : 0 < p) (inv : Nat) (b : List Nat) (hb : 0 < b.length) (hinv : cg p (((b.getD (b.length - 1) 0 : Nat) : Int) * inv) 1) : ∀ (n : Nat) (q left : List Nat), n + (b.length - 1) ≤ left.length → n ≤ q.length →
    (∀ j, j < n → q.getD j 0 = 0) → (∀ j, q.getD j 0 < p) → (∀ j, left.getD j 0 < p) → (∀ j, n + (b.length - 1) ≤ j → left.getD j 0 = 0) →
    (∀ s k, cg p (pr s (divO p inv b n (q, left)).1 b k + ph s (divO p inv b n (q, left)).2 k) (pr s q b k + ph s left k)) ∧ (∀ j, (divO p inv b n (q, left)).1.getD j 0 < p) ∧ (∀ j, (divO p inv b n (q, left)).2.getD j 0 < p) ∧
    ∀ j, b.length - 1 ≤ j → (divO p inv b n (q, left)).2.getD j 0 = 0
  | 0, q, left, _, _, _, hq, hl, hz => ⟨fun _ _ => cg.refl _, hq, hl, fun j hj => hz j (by omega)⟩
  | n + 1, q, left, hl, hql, hqz, hq, hlt, hz => by
    obtain ⟨qi, hqi⟩ : ∃ qi, left.getD (n + (b.length - 1)) 0 * inv % p = qi := ⟨_, rfl⟩
    have hqip : qi < p := hqi ▸ Nat.mod_lt _ hp
    have ih := divO_all hp inv b hb hinv n (q.set n qi) (divI p qi b n left b.length) (by rw [length_divI]; omega) (by rw [List.length_set]; omega)
      (fun j hj => by rw [getD_set _ _ _ _ (by omega), if_neg (by omega)]; exact hqz j (by omega))
      (fun j => by rw [getD_set _ _ _ _ (by omega)]; split; exact hqip; exact hq j)
      (divI_lt hp qi b n left hlt b.length (by omega))
      (fun j hj => by
        rw [divI_at _ _ _ _ _ _ (by omega)]
        by_cases e : j = n + (b.length - 1)
        · rw [if_pos (by omega), e, show n + (b.length - 1) - n = b.length - 1 by omega, ← hqi]
          exact sb_top hp hinv
        · rw [if_neg (by omega)]
          exact hz j (by omega))
    obtain ⟨i1, i2, i3, i4⟩ := ih
    have e : divO p inv b (n + 1) (q, left) = divO p inv b n (q.set n qi, divI p qi b n left b.length) := by rw [← hqi]; rfl
    rw [e]
    refine ⟨fun s k => (i1 s k).trans ?_, i2, i3, i4⟩
    have h1 : pr s (q.set n qi) b k = pr s q b k + ((qi : Int) - (q.getD n 0 : Nat)) * ph s b (k + n) := ph_set _ q k n qi (by omega)
    rw [h1, hqz n (by omega)]
    have h2 := ph_divI hp s qi b n left k (by omega) b.length (Nat.le_refl _)
    have e3 : S (fun j => ((b.getD j 0 : Nat) : Int) * s (k + n + j)) b.length = ph s b (k + n) := rfl
    rw [e3] at h2
    refine ((cg.refl _).add h2).trans (cg.of_eq ?_)
    have e4 : ((qi : Int) - ((0 : Nat) : Int)) = qi := by omega
    rw [e4]
    omega

/-- What division comes to. -/
theorem divN_all {p : Nat} (hp : 0 < p) (iv : Nat → Nat) (a b : List Nat) (ha : Nz p a) (hb : Nz p b) (hb0 : 0 < b.length) (hinv : cg p (((b.getD (b.length - 1) 0 : Nat) : Int) * iv (b.getD (b.length - 1) 0)) 1) :
    Nz p (divN iv p a b).1 ∧ Nz p (divN iv p a b).2 ∧ (divN iv p a b).2.length < b.length ∧ ∀ s k, cg p (pr s (divN iv p a b).1 b k + ph s (divN iv p a b).2 k) (ph s a k) := by
  unfold divN
  split
  · rename_i h
    refine ⟨Nz.nil hp, ha, h, fun s k => cg.of_eq ?_⟩
    show (0 : Int) + ph s a k = _
    omega
  · rename_i h
    obtain ⟨i1, i2, i3, i4⟩ := divO_all hp (iv (b.getD (b.length - 1) 0)) b hb0 hinv (a.length - (b.length - 1)) (List.replicate (a.length - (b.length - 1)) 0) a (by omega) (by rw [List.length_replicate]; omega)
      (fun j _ => getD_rep _ _) (fun j => by rw [getD_rep]; exact hp) ha.lt (fun j hj => getD_ge (by omega))
    refine ⟨Nz.of_trim i2, Nz.of_trim i3, ?_, fun s k => ?_⟩
    · have := (Nz.of_trim i3).len_le (m := b.length - 1) fun j hj => by rw [getD_trim]; exact i4 j hj
      show (trimN _).length < _
      omega
    · show cg p (ph _ (trimN _) k + ph s (trimN _) k) _
      rw [ph_trim, ph_trim]
      refine (i1 s k).trans (cg.of_eq ?_)
      show ph (fun i => ph s b i) (List.replicate (a.length - (b.length - 1)) 0) k + ph s a k = _
      rw [ph_rep]
      omega

/-! ### sums, multiples -/

def addL (p : Nat) (a b : List Nat) : List Nat := (List.range (max a.length b.length)).map fun j => (a.getD j 0 + b.getD j 0) % p
def subL (p : Nat) (a b : List Nat) : List Nat := (List.range (max a.length b.length)).map fun j => sb (a.getD j 0) (b.getD j 0) p
def scaleL (p : Nat) (a : List Nat) (x : Nat) : List Nat := a.map fun c => c * x % p

theorem getD_addL {p : Nat} (hp : 0 < p) (a b : List Nat) (j : Nat) : (addL p a b).getD j 0 = (a.getD j 0 + b.getD j 0) % p := by
  unfold addL
  rw [List.getD_eq_getElem?_getD, List.getElem?_map]
  rcases Nat.lt_or_ge j (max a.length b.length) with h | h
  · rw [List.getElem?_range h]; rfl
  · rw [List.getElem?_eq_none (by rw [List.length_range]; exact h), getD_ge (a := a) (by omega), getD_ge (a := b) (by omega)]
    exact (Nat.zero_mod p).symm

theorem getD_subL {p : Nat} (hp : 0 < p) (a b : List Nat) (j : Nat) : (subL p a b).getD j 0 = sb (a.getD j 0) (b.getD j 0) p := by
  unfold subL
  rw [List.getD_eq_getElem?_getD, List.getElem?_map]
  rcases Nat.lt_or_ge j (max a.length b.length) with h | h
  · rw [List.getElem?_range h]; rfl
  · rw [List.getElem?_eq_none (by rw [List.length_range]; exact h), getD_ge (a := a) (by omega), getD_ge (a := b) (by omega)]
    show 0 = sb 0 0 p
    unfold sb
    rw [Nat.zero_mod, Nat.zero_add, Nat.sub_zero, Nat.mod_self]

theorem getD_scaleL {p : Nat} (hp : 0 < p) (a : List Nat) (x j : Nat) : (scaleL p a x).getD j 0 = a.getD j 0 * x % p := by
  unfold scaleL
  rw [List.getD_eq_getElem?_getD, List.getD_eq_getElem?_getD, List.getElem?_map]
  cases a[j]? with
  | none => show 0 = 0 * x % p; rw [Nat.zero_mul, Nat.zero_mod]
  | some v => rfl

theorem length_addL (p : Nat) (a b : List Nat) : (addL p a b).length = max a.length b.length := by simp [addL]
theorem length_subL (p : Nat) (a b : List Nat) : (subL p a b).length = max a.length b.length := by simp [subL]
theorem length_scaleL (p : Nat) (a : List Nat) (x : Nat) : (scaleL p a x).length = a.length := by simp [scaleL]

theorem ph_addL {p : Nat} (hp : 0 < p) (s : Nat → Int) (a b : List Nat) (k : Nat) : cg p (ph s (addL p a b) k) (ph s a k + ph s b k) := by
  rw [ph_more s (addL p a b) k _ (by rw [length_addL]; exact Nat.le_refl _), ph_more s a k (max a.length b.length) (by omega), ph_more s b k (max a.length b.length) (by omega), ← S_add]
  refine S_cg fun j _ => ?_
  rw [getD_addL hp, ← Int.add_mul, ← Int.natCast_add]
  exact (cg.mod _).mul (cg.refl _)

theorem ph_subL {p : Nat} (hp : 0 < p) (s : Nat → Int) (a b : List Nat) (k : Nat) : cg p (ph s (subL p a b) k) (ph s a k - ph s b k) := by
  rw [ph_more s (subL p a b) k _ (by rw [length_subL]; exact Nat.le_refl _), ph_more s a k (max a.length b.length) (by omega), ph_more s b k (max a.length b.length) (by omega)]
  have e : S (fun j => ((a.getD j 0 : Nat) : Int) * s (k + j)) (max a.length b.length) - S (fun j => ((b.getD j 0 : Nat) : Int) * s (k + j)) (max a.length b.length) = S (fun j => (((a.getD j 0 : Nat) : Int) - (b.getD j 0 : Nat)) * s (k + j)) (max a.length b.length) := by
    have h1 := S_add (fun j => (((a.getD j 0 : Nat) : Int) - (b.getD j 0 : Nat)) * s (k + j)) (fun j => ((b.getD j 0 : Nat) : Int) * s (k + j)) (max a.length b.length)
    have h2 : S (fun j => (((a.getD j 0 : Nat) : Int) - (b.getD j 0 : Nat)) * s (k + j) + ((b.getD j 0 : Nat) : Int) * s (k + j)) (max a.length b.length) = S (fun j => ((a.getD j 0 : Nat) : Int) * s (k + j)) (max a.length b.length) := S_congr fun j _ => by rw [Int.sub_mul]; omega
    omega
  rw [e]
  refine S_cg fun j _ => ?_
  rw [getD_subL hp]
  exact (cg.sb hp _ _).mul (cg.refl _)

theorem ph_scaleL {p : Nat} (hp : 0 < p) (s : Nat → Int) (a : List Nat) (x k : Nat) : cg p (ph s (scaleL p a x) k) (x * ph s a k) := by
  unfold ph
  rw [length_scaleL, ← S_mul]
  refine S_cg fun j _ => ?_
  rw [getD_scaleL hp]
  refine ((cg.mod _).mul (cg.refl _)).trans (cg.of_eq ?_)
  rw [Int.natCast_mul, Int.mul_comm ((a.getD j 0 : Nat) : Int), Int.mul_assoc]

end Vinc.Num
