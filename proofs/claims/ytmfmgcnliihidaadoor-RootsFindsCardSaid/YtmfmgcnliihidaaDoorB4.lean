/- Part 4 of the proof's texts, joined: VincPv. -/
import Derived.Test.YtmfmgcnliihidaaDoorB3

/- Partition about a median, on lists. No program in sight. -/
set_option linter.unusedVariables false
namespace Vinc.Num

def fwdK (ys : List Nat) (c j : Nat) : Nat → Nat → Nat
  | 0, i => i
  | f + 1, i => if i ≤ j ∧ ys.getD i 0 < ys.getD c 0 then fwdK ys c j f (i + 1) else i

def bwdK (ys : List Nat) (c i : Nat) : Nat → Nat → Nat
  | 0, j => j
  | f + 1, j => if i ≤ j ∧ ¬ ys.getD j 0 < ys.getD c 0 then bwdK ys c i f (j - 1) else j

theorem fwdK_spec (ys : List Nat) (c j : Nat) : ∀ (f i : Nat), j + 1 - i ≤ f → i ≤ j + 1 → i ≤ fwdK ys c j f i ∧ fwdK ys c j f i ≤ j + 1 ∧ (∀ u, i ≤ u → u < fwdK ys c j f i → ys.getD u 0 < ys.getD c 0) ∧ (j < fwdK ys c j f i ∨ ¬ ys.getD (fwdK ys c j f i) 0 < ys.getD c 0)
  | 0, i, h, hi => ⟨Nat.le_refl _, hi, fun u h1 h2 => absurd h2 (by show ¬ u < i; omega), .inl (by show j < i; omega)⟩
  | f + 1, i, h, hi => by
    unfold fwdK
    split
    · rename_i hc
      obtain ⟨h1, h2, h3, h4⟩ := fwdK_spec ys c j f (i + 1) (by omega) (by omega)
      refine ⟨by omega, h2, fun u hu1 hu2 => ?_, h4⟩
      by_cases e : u = i
      · subst e; exact hc.2
      · exact h3 u (by omega) hu2
    · rename_i hc
      refine ⟨Nat.le_refl _, hi, fun u h1 h2 => absurd h2 (by omega), ?_⟩
      rcases Nat.lt_or_ge j i with h5 | h5
      · exact .inl h5
      · exact .inr fun h6 => hc ⟨h5, h6⟩

theorem bwdK_spec (ys : List Nat) (c i : Nat) (hi0 : 0 < i) : ∀ (f j : Nat), j + 1 - i ≤ f → i ≤ j + 1 → bwdK ys c i f j ≤ j ∧ i ≤ bwdK ys c i f j + 1 ∧ (∀ u, bwdK ys c i f j < u → u ≤ j → ys.getD c 0 ≤ ys.getD u 0) ∧ (bwdK ys c i f j < i ∨ ys.getD (bwdK ys c i f j) 0 < ys.getD c 0)
  | 0, j, h, hi => ⟨Nat.le_refl _, hi, fun u h1 h2 => absurd h2 (by have h1 : j < u := h1; omega), .inl (by show j < i; omega)⟩
  | f + 1, j, h, hi => by
    unfold bwdK
    split
    · rename_i hc
      obtain ⟨h1, h2, h3, h4⟩ := bwdK_spec ys c i hi0 f (j - 1) (by omega) (by omega)
      refine ⟨by omega, h2, fun u hu1 hu2 => ?_, h4⟩
      by_cases e : u = j
      · subst e; exact Nat.le_of_not_lt hc.2
      · exact h3 u hu1 (by omega)
    · rename_i hc
      refine ⟨Nat.le_refl _, hi, fun u h1 h2 => absurd h2 (by omega), ?_⟩
      rcases Nat.lt_or_ge j i with h5 | h5
      · exact .inl h5
      · refine .inr ?_
        rcases Nat.lt_or_ge (ys.getD j 0) (ys.getD c 0) with h6 | h6
        · exact h6
        · exact absurd ⟨h5, Nat.not_lt_of_le h6⟩ hc

def fwd1 (ys : List Nat) (c i j : Nat) : Nat := fwdK ys c j (j + 1 - i) i
def bwd1 (ys : List Nat) (c i j : Nat) : Nat := bwdK ys c i (j + 1 - i) j

/-- Parted, from both ends. -/
def prtK (c : Nat) : Nat → List Nat → Nat → Nat → List Nat × Nat × Nat
  | 0, ys, i, j => (ys, i, j)
  | f + 1, ys, i, j =>
    if fwd1 ys c i j > bwd1 ys c (fwd1 ys c i j) j then (ys, fwd1 ys c i j, bwd1 ys c (fwd1 ys c i j) j)
    else prtK c f (swp ys (fwd1 ys c i j) (bwd1 ys c (fwd1 ys c i j) j)) (fwd1 ys c i j + 1) (bwd1 ys c (fwd1 ys c i j) j - 1)

/-- Parted so far: y0 is the list as it was, with the middle at a. -/
structure PI (y0 zs : List Nat) (a b i j : Nat) : Prop where
  pm : Pm y0 zs (a + 1) b
  ai : a < i
  ij : i ≤ j + 1
  jb : j < b
  lo : ∀ u, a < u → u < i → zs.getD u 0 < zs.getD a 0
  hi : ∀ u, j < u → u < b → zs.getD a 0 ≤ zs.getD u 0

theorem PI.ends {y0 zs : List Nat} {a b i j : Nat} (h : PI y0 zs a b i j) (hb : b ≤ y0.length) :
    PI y0 zs a b (fwd1 zs a i j) (bwd1 zs a (fwd1 zs a i j) j) ∧ (fwd1 zs a i j ≤ bwd1 zs a (fwd1 zs a i j) j → fwd1 zs a i j < bwd1 zs a (fwd1 zs a i j) j ∧ PI y0 (swp zs (fwd1 zs a i j) (bwd1 zs a (fwd1 zs a i j) j)) a b (fwd1 zs a i j + 1) (bwd1 zs a (fwd1 zs a i j) j - 1)) ∧
      bwd1 zs a (fwd1 zs a i j) j ≤ j ∧ i ≤ fwd1 zs a i j ∧ fwd1 zs a i j ≤ j + 1 := by
  obtain ⟨f1, f2, f3, f4⟩ := fwdK_spec zs a j (j + 1 - i) i (Nat.le_refl _) h.ij
  have f1 : i ≤ fwd1 zs a i j := f1
  have f2 : fwd1 zs a i j ≤ j + 1 := f2
  have f3 : ∀ u, i ≤ u → u < fwd1 zs a i j → zs.getD u 0 < zs.getD a 0 := f3
  have f4 : j < fwd1 zs a i j ∨ ¬ zs.getD (fwd1 zs a i j) 0 < zs.getD a 0 := f4
  have hai := h.ai
  generalize fwd1 zs a i j = i1 at *
  obtain ⟨b1, b2, b3, b4⟩ := bwdK_spec zs a i1 (by omega) (j + 1 - i1) j (Nat.le_refl _) f2
  have b1 : bwd1 zs a i1 j ≤ j := b1
  have b2 : i1 ≤ bwd1 zs a i1 j + 1 := b2
  have b3 : ∀ u, bwd1 zs a i1 j < u → u ≤ j → zs.getD a 0 ≤ zs.getD u 0 := b3
  have b4 : bwd1 zs a i1 j < i1 ∨ zs.getD (bwd1 zs a i1 j) 0 < zs.getD a 0 := b4
  generalize bwd1 zs a i1 j = j1 at *
  have hjb := h.jb
  have hl := h.pm.len
  have lo : ∀ u, a < u → u < i1 → zs.getD u 0 < zs.getD a 0 := fun u h1 h2 => by
    rcases Nat.lt_or_ge u i with h3 | h3
    · exact h.lo u h1 h3
    · exact f3 u h3 h2
  have hi : ∀ u, j1 < u → u < b → zs.getD a 0 ≤ zs.getD u 0 := fun u h1 h2 => by
    rcases Nat.lt_or_ge j u with h3 | h3
    · exact h.hi u h3 h2
    · exact b3 u h1 h3
  refine ⟨⟨h.pm, by omega, b2, by omega, lo, hi⟩, fun hle => ?_, b1, f1, f2⟩
  have hne : i1 ≠ j1 := fun e => by
    subst e
    rcases f4 with h5 | h5
    · omega
    · rcases b4 with h6 | h6
      · omega
      · exact h5 h6
  have hlt : i1 < j1 := by omega
  refine ⟨hlt, h.pm.swp (by omega) (by omega) (by omega) (by omega) hb, by omega, by omega, by omega, fun u h1 h2 => ?_, fun u h1 h2 => ?_⟩
  · rw [swp_getD (by omega) (by omega), swp_getD (by omega) (by omega), if_neg (by omega : ¬ u = j1), if_neg (by omega : ¬ a = j1), if_neg (by omega : ¬ a = i1)]
    by_cases e : u = i1
    · rw [if_pos e]
      rcases b4 with h6 | h6
      · omega
      · exact h6
    · rw [if_neg e]
      exact lo u h1 (by omega)
  · rw [swp_getD (by omega) (by omega), swp_getD (by omega) (by omega), if_neg (by omega : ¬ a = j1), if_neg (by omega : ¬ a = i1)]
    by_cases e : u = j1
    · rw [if_pos e]
      rcases f4 with h5 | h5
      · omega
      · exact Nat.le_of_not_lt h5
    · rw [if_neg e, if_neg (by omega : ¬ u = i1)]
      exact hi u (by omega) h2

theorem prtK_spec {y0 : List Nat} {a b : Nat} (hb : b ≤ y0.length) : ∀ (f : Nat) (zs : List Nat) (i j : Nat), j + 2 - i ≤ f → PI y0 zs a b i j → PI y0 (prtK a f zs i j).1 a b (prtK a f zs i j).2.1 (prtK a f zs i j).2.2 ∧ (prtK a f zs i j).2.2 < (prtK a f zs i j).2.1
  | 0, zs, i, j, hf, h => by have := h.ij; omega
  | f + 1, zs, i, j, hf, h => by
    obtain ⟨h1, h2, h3, h4, h5⟩ := h.ends hb
    unfold prtK
    split
    · rename_i hc
      exact ⟨h1, hc⟩
    · rename_i hc
      obtain ⟨h6, h7⟩ := h2 (by omega)
      exact prtK_spec hb f _ _ _ (by omega) h7

/-- What partition leaves: the list, the middle's place, whether it was parted already. -/
def partK (ys : List Nat) (a b v : Nat) : List Nat × Nat × Bool :=
  if fwd1 (swp ys a v) a (a + 1) (b - 1) > bwd1 (swp ys a v) a (fwd1 (swp ys a v) a (a + 1) (b - 1)) (b - 1) then
    (swp (swp ys a v) (bwd1 (swp ys a v) a (fwd1 (swp ys a v) a (a + 1) (b - 1)) (b - 1)) a, bwd1 (swp ys a v) a (fwd1 (swp ys a v) a (a + 1) (b - 1)) (b - 1), true)
  else
    (swp (prtK a b (swp (swp ys a v) (fwd1 (swp ys a v) a (a + 1) (b - 1)) (bwd1 (swp ys a v) a (fwd1 (swp ys a v) a (a + 1) (b - 1)) (b - 1))) (fwd1 (swp ys a v) a (a + 1) (b - 1) + 1) (bwd1 (swp ys a v) a (fwd1 (swp ys a v) a (a + 1) (b - 1)) (b - 1) - 1)).1
      (prtK a b (swp (swp ys a v) (fwd1 (swp ys a v) a (a + 1) (b - 1)) (bwd1 (swp ys a v) a (fwd1 (swp ys a v) a (a + 1) (b - 1)) (b - 1))) (fwd1 (swp ys a v) a (a + 1) (b - 1) + 1) (bwd1 (swp ys a v) a (fwd1 (swp ys a v) a (a + 1) (b - 1)) (b - 1) - 1)).2.2 a,
      (prtK a b (swp (swp ys a v) (fwd1 (swp ys a v) a (a + 1) (b - 1)) (bwd1 (swp ys a v) a (fwd1 (swp ys a v) a (a + 1) (b - 1)) (b - 1))) (fwd1 (swp ys a v) a (a + 1) (b - 1) + 1) (bwd1 (swp ys a v) a (fwd1 (swp ys a v) a (a + 1) (b - 1)) (b - 1) - 1)).2.2, false)

structure Parted (ys zs : List Nat) (a b v m : Nat) : Prop where
  pm : Pm ys zs a b
  am : a ≤ m
  mb : m < b
  mid : zs.getD m 0 = ys.getD v 0
  lo : ∀ u, a ≤ u → u < m → zs.getD u 0 < zs.getD m 0
  hi : ∀ u, m < u → u < b → zs.getD m 0 ≤ zs.getD u 0

theorem PI.done {ys zs : List Nat} {a b v i j : Nat} (hav : a ≤ v) (hvb : v < b) (hb : b ≤ ys.length) (h : PI (swp ys a v) zs a b i j) (hij : j < i) : Parted ys (swp zs j a) a b v j := by
  have hai := h.ai
  have hjb := h.jb
  have hl := h.pm.len
  have hij2 := h.ij
  rw [swp_len] at hl
  have e : zs.getD a 0 = ys.getD v 0 := by
    rw [h.pm.out a (.inl (by omega)), swp_getD (by omega) (by omega)]
    split
    · rename_i e; rw [e]
    · rw [if_pos rfl]
  have hpm : Pm ys zs a b := ((Pm.refl ys a b).swp (Nat.le_refl a) (by omega) hav hvb hb).trans (h.pm.mono (by omega) (Nat.le_refl b))
  have haj : a ≤ j := by omega
  refine ⟨hpm.swp haj hjb (Nat.le_refl a) (by omega) hb, haj, hjb, ?_, fun u h1 h2 => ?_, fun u h1 h2 => ?_⟩
  · rw [swp_getD (by omega) (by omega)]
    by_cases e2 : j = a
    · rw [if_pos e2, e2]; exact e
    · rw [if_neg e2, if_pos rfl]; exact e
  · rw [swp_getD (by omega) (by omega), swp_getD (by omega) (by omega), if_neg (by omega : ¬ j = a), if_pos rfl]
    by_cases e2 : u = a
    · rw [if_pos e2]
      exact h.lo j (by omega) hij
    · rw [if_neg e2, if_neg (by omega : ¬ u = j)]
      exact h.lo u (by omega) (by omega)
  · rw [swp_getD (by omega) (by omega), swp_getD (by omega) (by omega), if_neg (by omega : ¬ u = a), if_neg (by omega : ¬ u = j)]
    by_cases e2 : j = a
    · rw [if_pos e2, e2]
      exact h.hi u h1 h2
    · rw [if_neg e2, if_pos rfl]
      exact h.hi u h1 h2

theorem partK_start {ys : List Nat} {a b v : Nat} (hav : a ≤ v) (hvb : v < b) (hb : b ≤ ys.length) (hab : a + 1 < b) : PI (swp ys a v) (swp ys a v) a b (a + 1) (b - 1) :=
  ⟨Pm.refl _ _ _, by omega, by omega, by omega, fun u h1 h2 => by omega, fun u h1 h2 => by omega⟩

theorem partK_facts {ys : List Nat} {a b v : Nat} (hav : a ≤ v) (hvb : v < b) (hb : b ≤ ys.length) (hab : a + 1 < b) : Parted ys (partK ys a b v).1 a b v (partK ys a b v).2.1 := by
  have h0 := partK_start hav hvb hb hab
  obtain ⟨h1, h2, h3, h4, h5⟩ := h0.ends (by rw [swp_len]; exact hb)
  unfold partK
  split
  · rename_i hc
    exact h1.done hav hvb hb hc
  · rename_i hc
    obtain ⟨h6, h7⟩ := h2 (by omega)
    obtain ⟨h8, h9⟩ := prtK_spec (by rw [swp_len]; exact hb) b _ _ _ (by omega) h7
    exact h8.done hav hvb hb h9

/-! ### what is sorted when both sides are -/

theorem Pm.nodup {xs ys : List Nat} {a b : Nat} (h : Pm xs ys a b) (hn : xs.Nodup) : ys.Nodup := h.perm.nodup_iff.mpr hn

theorem nodup_ne {xs : List Nat} (h : xs.Nodup) {i j : Nat} (hi : i < xs.length) (hj : j < xs.length) (hij : i ≠ j) : xs.getD i 0 ≠ xs.getD j 0 := fun e => by
  rw [List.getD_eq_getElem?_getD, List.getD_eq_getElem?_getD, List.getElem?_eq_getElem hi, List.getElem?_eq_getElem hj] at e
  exact hij ((List.getElem_inj h).mp e)

/-- An element of the range is found again in the range. -/
theorem Pm.find {xs ys : List Nat} {a b : Nat} (h : Pm xs ys a b) (hn : xs.Nodup) (hb : b ≤ xs.length) {u : Nat} (h1 : a ≤ u) (h2 : u < b) : ∃ w, a ≤ w ∧ w < b ∧ ys.getD w 0 = xs.getD u 0 := by
  have hl := h.len
  have hm : xs.getD u 0 ∈ ys := h.perm.mem_iff.mpr (by
    rw [List.getD_eq_getElem?_getD, List.getElem?_eq_getElem (by omega)]
    exact List.getElem_mem _)
  obtain ⟨w, hw, e⟩ := List.mem_iff_getElem.mp hm
  have e2 : ys.getD w 0 = xs.getD u 0 := by
    rw [List.getD_eq_getElem?_getD, List.getElem?_eq_getElem hw]; exact e
  rcases Nat.lt_or_ge w a with h3 | h3
  · exfalso
    rw [h.out w (.inl h3)] at e2
    exact nodup_ne hn (by omega) (by omega) (by omega) e2
  · rcases Nat.lt_or_ge w b with h4 | h4
    · exact ⟨w, h3, h4, e2⟩
    · exfalso
      rw [h.out w (.inr h4)] at e2
      exact nodup_ne hn (by omega) (by omega) (by omega) e2

theorem Pm.back {xs ys : List Nat} {a b : Nat} (h : Pm xs ys a b) : Pm ys xs a b := ⟨h.perm.symm, fun k hk => (h.out k hk).symm⟩

theorem sortR_pm {xs ys : List Nat} {a b : Nat} (hab : a ≤ b) (hb : b ≤ xs.length) (h : Pm xs ys a b) : sortR ys a b = sortR xs a b := by
  have hl := h.len
  obtain ⟨h1, h2⟩ := sortR_facts ys hab (by omega)
  exact sortR_of hab hb (h.trans h1) h2

/-- The left side first, or the right side. -/
theorem sortR_lo {ys zs : List Nat} {a b v m : Nat} (hb : b ≤ ys.length) (hn : ys.Nodup) (h : Parted ys zs a b v m) : sortR (sortR zs a m) (m + 1) b = sortR ys a b ∧ (∀ u, m < u → u < b → (sortR zs a m).getD m 0 < (sortR zs a m).getD u 0) := by
  have hl := h.pm.len
  have hzn := h.pm.nodup hn
  have h1 := h.am
  have h2 := h.mb
  obtain ⟨p1, s1⟩ := sortR_facts zs h1 (by omega)
  have l1 := p1.len
  obtain ⟨p2, s2⟩ := sortR_facts (sortR zs a m) (by omega : m + 1 ≤ b) (by omega)
  have l2 := p2.len
  have hlo : ∀ u, a ≤ u → u < m → (sortR zs a m).getD u 0 < zs.getD m 0 := fun u h3 h4 => by
    obtain ⟨w, w1, w2, w3⟩ := p1.back.find (p1.nodup hzn) (by omega) h3 h4
    rw [← w3]
    exact h.lo w w1 w2
  have hm1 : (sortR zs a m).getD m 0 = zs.getD m 0 := p1.out m (.inr (Nat.le_refl m))
  have hhi1 : ∀ u, m < u → u < b → (sortR zs a m).getD m 0 < (sortR zs a m).getD u 0 := fun u h3 h4 => by
    rw [hm1, p1.out u (.inr (by omega))]
    have h5 := h.hi u h3 h4
    have h6 := nodup_ne hzn (show m < zs.length by omega) (show u < zs.length by omega) (by omega)
    omega
  refine ⟨sortR_of (by omega) hb ((h.pm.trans (p1.mono (Nat.le_refl a) (by omega))).trans (p2.mono (by omega) (Nat.le_refl b))) fun u v' h3 h4 h5 => ?_, hhi1⟩
  have hhi : ∀ u, m < u → u < b → zs.getD m 0 < (sortR (sortR zs a m) (m + 1) b).getD u 0 := fun u h6 h7 => by
    obtain ⟨w, w1, w2, w3⟩ := p2.back.find (p2.nodup (p1.nodup hzn)) (by omega) (show m + 1 ≤ u by omega) h7
    rw [← w3, ← hm1]
    exact hhi1 w (by omega) w2
  rcases Nat.lt_or_ge m u with h6 | h6
  · exact s2 u v' (by omega) h4 h5
  · have e1 : (sortR (sortR zs a m) (m + 1) b).getD u 0 = (sortR zs a m).getD u 0 := p2.out u (.inl (by omega))
    have hle : (sortR zs a m).getD u 0 ≤ zs.getD m 0 := by
      by_cases e : u = m
      · rw [e, hm1]; exact Nat.le_refl _
      · exact Nat.le_of_lt (hlo u h3 (by omega))
    rw [e1]
    rcases Nat.lt_or_ge m v' with h7 | h7
    · exact Nat.le_of_lt (Nat.lt_of_le_of_lt hle (hhi v' h7 h5))
    · rw [p2.out v' (.inl (by omega))]
      by_cases e : v' = m
      · rw [e, hm1]; exact hle
      · exact s1 u v' h3 h4 (by omega)

theorem sortR_hi {ys zs : List Nat} {a b v m : Nat} (hb : b ≤ ys.length) (hn : ys.Nodup) (h : Parted ys zs a b v m) : sortR (sortR zs (m + 1) b) a m = sortR ys a b := by
  have hl := h.pm.len
  have hzn := h.pm.nodup hn
  have h1 := h.am
  have h2 := h.mb
  obtain ⟨p1, s1⟩ := sortR_facts zs (by omega : m + 1 ≤ b) (by omega)
  have l1 := p1.len
  obtain ⟨p2, s2⟩ := sortR_facts (sortR zs (m + 1) b) h1 (by omega)
  have l2 := p2.len
  have hm1 : (sortR zs (m + 1) b).getD m 0 = zs.getD m 0 := p1.out m (.inl (by omega))
  have hhi : ∀ u, m < u → u < b → zs.getD m 0 ≤ (sortR zs (m + 1) b).getD u 0 := fun u h3 h4 => by
    obtain ⟨w, w1, w2, w3⟩ := p1.back.find (p1.nodup hzn) (by omega) (show m + 1 ≤ u by omega) h4
    rw [← w3]
    exact h.hi w (by omega) w2
  have hlo1 : ∀ u, a ≤ u → u < m → (sortR zs (m + 1) b).getD u 0 < zs.getD m 0 := fun u h3 h4 => by
    rw [p1.out u (.inl (by omega))]
    exact h.lo u h3 h4
  have hlo : ∀ u, a ≤ u → u < m → (sortR (sortR zs (m + 1) b) a m).getD u 0 < zs.getD m 0 := fun u h3 h4 => by
    obtain ⟨w, w1, w2, w3⟩ := p2.back.find (p2.nodup (p1.nodup hzn)) (by omega) h3 h4
    rw [← w3]
    exact hlo1 w w1 w2
  refine sortR_of (by omega) hb ((h.pm.trans (p1.mono (by omega) (Nat.le_refl b))).trans (p2.mono (Nat.le_refl a) (by omega))) fun u v' h3 h4 h5 => ?_
  rcases Nat.lt_or_ge v' m with h6 | h6
  · exact s2 u v' h3 h4 h6
  · have e1 : (sortR (sortR zs (m + 1) b) a m).getD v' 0 = (sortR zs (m + 1) b).getD v' 0 := p2.out v' (.inr h6)
    rw [e1]
    have hge : zs.getD m 0 ≤ (sortR zs (m + 1) b).getD v' 0 := by
      by_cases e : v' = m
      · rw [e, hm1]; exact Nat.le_refl _
      · exact hhi v' (by omega) h5
    rcases Nat.lt_or_ge u m with h7 | h7
    · exact Nat.le_of_lt (Nat.lt_of_lt_of_le (hlo u h3 h7) hge)
    · rw [p2.out u (.inr h7)]
      by_cases e : u = m
      · rw [e, hm1]; exact hge
      · exact s1 u v' (by omega) h4 h5

/-- A middle that has less and more beside it. -/
theorem Parted.both {ys zs : List Nat} {a b v m : Nat} (hb : b ≤ ys.length) (hn : ys.Nodup) (h : Parted ys zs a b v m) {s t : Nat} (hs : a ≤ s) (hs' : s < b) (ht : a ≤ t) (ht' : t < b) (h1 : ys.getD s 0 < ys.getD v 0) (h2 : ys.getD v 0 < ys.getD t 0) : a < m ∧ m + 1 < b := by
  obtain ⟨w, w1, w2, w3⟩ := h.pm.find hn hb hs hs'
  obtain ⟨x, x1, x2, x3⟩ := h.pm.find hn hb ht ht'
  have hm := h.mid
  constructor
  · rcases Nat.lt_or_ge m w with h3 | h3
    · have := h.hi w h3 w2; omega
    · by_cases e : w = m
      · rw [e] at w3; omega
      · omega
  · rcases Nat.lt_or_ge x m with h3 | h3
    · have := h.lo x x1 h3; omega
    · by_cases e : x = m
      · rw [e] at x3; omega
      · omega

/-! ### the median of three -/

def o2 (ys : List Nat) (x y : Nat) : Nat × Nat × Nat := if ys.getD y 0 < ys.getD x 0 then (y, x, 1) else (x, y, 0)

def medK (ys : List Nat) (x y z : Nat) : Nat × Nat :=
  ((o2 ys (o2 ys x y).1 (o2 ys (o2 ys x y).2.1 z).1).2.1, (o2 ys x y).2.2 + (o2 ys (o2 ys x y).2.1 z).2.2 + (o2 ys (o2 ys x y).1 (o2 ys (o2 ys x y).2.1 z).1).2.2)

theorem medK_facts {ys : List Nat} {x y z : Nat} (hxy : ys.getD x 0 ≠ ys.getD y 0) (hxz : ys.getD x 0 ≠ ys.getD z 0) (hyz : ys.getD y 0 ≠ ys.getD z 0) :
    (medK ys x y z).2 ≤ 3 ∧ ∃ s t, (s = x ∨ s = y ∨ s = z) ∧ (t = x ∨ t = y ∨ t = z) ∧ ((medK ys x y z).1 = x ∨ (medK ys x y z).1 = y ∨ (medK ys x y z).1 = z) ∧ ys.getD s 0 < ys.getD (medK ys x y z).1 0 ∧ ys.getD (medK ys x y z).1 0 < ys.getD t 0 := by
  have fin : ∀ (m n : Nat), medK ys x y z = (m, n) → n ≤ 3 → (m = x ∨ m = y ∨ m = z) → (∃ s t, (s = x ∨ s = y ∨ s = z) ∧ (t = x ∨ t = y ∨ t = z) ∧ ys.getD s 0 < ys.getD m 0 ∧ ys.getD m 0 < ys.getD t 0) → (medK ys x y z).2 ≤ 3 ∧ ∃ s t, (s = x ∨ s = y ∨ s = z) ∧ (t = x ∨ t = y ∨ t = z) ∧ ((medK ys x y z).1 = x ∨ (medK ys x y z).1 = y ∨ (medK ys x y z).1 = z) ∧ ys.getD s 0 < ys.getD (medK ys x y z).1 0 ∧ ys.getD (medK ys x y z).1 0 < ys.getD t 0 := by
    rintro m n e h1 h2 ⟨s, t, h3, h4, h5, h6⟩
    rw [e]
    exact ⟨h1, s, t, h3, h4, h2, h5, h6⟩
  have op : ∀ u v, ys.getD v 0 < ys.getD u 0 → o2 ys u v = (v, u, 1) := fun u v h => if_pos h
  have on : ∀ u v, ¬ ys.getD v 0 < ys.getD u 0 → o2 ys u v = (u, v, 0) := fun u v h => if_neg h
  by_cases h1 : ys.getD y 0 < ys.getD x 0
  · by_cases h2 : ys.getD z 0 < ys.getD x 0
    · by_cases h3 : ys.getD z 0 < ys.getD y 0
      · refine fin y 3 (by unfold medK; rw [op x y h1]; dsimp only; rw [op x z h2]; dsimp only; rw [op y z h3] <;> rfl) (by decide) (by simp) ?_
        first | (exfalso; omega) | exact ⟨z, x, by simp, by simp, by omega, by omega⟩
      · refine fin z 2 (by unfold medK; rw [op x y h1]; dsimp only; rw [op x z h2]; dsimp only; rw [on y z h3] <;> rfl) (by decide) (by simp) ?_
        first | (exfalso; omega) | exact ⟨y, x, by simp, by simp, by omega, by omega⟩
    · by_cases h3 : ys.getD x 0 < ys.getD y 0
      · refine fin y 2 (by unfold medK; rw [op x y h1]; dsimp only; rw [on x z h2]; dsimp only; rw [op y x h3] <;> rfl) (by decide) (by simp) ?_
        first | (exfalso; omega) | exact ⟨x, z, by simp, by simp, by omega, by omega⟩
      · refine fin x 1 (by unfold medK; rw [op x y h1]; dsimp only; rw [on x z h2]; dsimp only; rw [on y x h3] <;> rfl) (by decide) (by simp) ?_
        first | (exfalso; omega) | exact ⟨y, z, by simp, by simp, by omega, by omega⟩
  · by_cases h2 : ys.getD z 0 < ys.getD y 0
    · by_cases h3 : ys.getD z 0 < ys.getD x 0
      · refine fin x 2 (by unfold medK; rw [on x y h1]; dsimp only; rw [op y z h2]; dsimp only; rw [op x z h3] <;> rfl) (by decide) (by simp) ?_
        first | (exfalso; omega) | exact ⟨z, y, by simp, by simp, by omega, by omega⟩
      · refine fin z 1 (by unfold medK; rw [on x y h1]; dsimp only; rw [op y z h2]; dsimp only; rw [on x z h3] <;> rfl) (by decide) (by simp) ?_
        first | (exfalso; omega) | exact ⟨x, y, by simp, by simp, by omega, by omega⟩
    · by_cases h3 : ys.getD y 0 < ys.getD x 0
      · refine fin x 1 (by unfold medK; rw [on x y h1]; dsimp only; rw [on y z h2]; dsimp only; rw [op x y h3] <;> rfl) (by decide) (by simp) ?_
        first | (exfalso; omega) | exact ⟨y, z, by simp, by simp, by omega, by omega⟩
      · refine fin y 0 (by unfold medK; rw [on x y h1]; dsimp only; rw [on y z h2]; dsimp only; rw [on x y h3] <;> rfl) (by decide) (by simp) ?_
        first | (exfalso; omega) | exact ⟨x, z, by simp, by simp, by omega, by omega⟩

end Vinc.Num

namespace Vinc.Num

theorem Asc.snoc {ys : List Nat} {a i : Nat} (h : Asc ys a (i + 1)) (hi : a ≤ i) (hle : ys.getD i 0 ≤ ys.getD (i + 1) 0) : Asc ys a (i + 1 + 1) := fun u v h1 h2 h3 => by
  by_cases e : v = i + 1
  · subst e
    by_cases e2 : u = i
    · subst e2; exact hle
    · exact Nat.le_trans (h u i h1 (by omega) (by omega)) hle
  · exact h u v h1 h2 (by omega)

theorem Asc.sortR {ys : List Nat} {a b : Nat} (h : Asc ys a b) (hab : a ≤ b) (hb : b ≤ ys.length) : Num.sortR ys a b = ys := (sortR_of hab hb (Pm.refl ys a b) h).symm

/-- Pseudo random swaps. -/
def brkK (nx : Int → Int) (md a n i0 : Nat) (ys : List Nat) : Nat → Int × List Nat
  | 0 => ((n : Int), ys)
  | k + 1 => (nx (brkK nx md a n i0 ys k).1, swp (brkK nx md a n i0 ys k).2 (i0 + k) (a + (if (nx (brkK nx md a n i0 ys k).1).toNat % md ≥ n then (nx (brkK nx md a n i0 ys k).1).toNat % md - n else (nx (brkK nx md a n i0 ys k).1).toNat % md)))

theorem brkK_pm {nx : Int → Int} {md a n i0 b : Nat} {ys : List Nat} (hmd : 0 < md) (hmd2 : md ≤ 2 * n) (hb : b ≤ ys.length) (hn : a + n = b) : ∀ k, a ≤ i0 → i0 + k ≤ b → Pm ys (brkK nx md a n i0 ys k).2 a b
  | 0, _, _ => Pm.refl _ _ _
  | k + 1, h1, h2 => by
    have ih := brkK_pm (nx := nx) hmd hmd2 hb hn k h1 (by omega)
    have hlt := Nat.mod_lt (nx (brkK nx md a n i0 ys k).1).toNat hmd
    refine ih.swp (by omega) (by omega) (by omega) ?_ hb
    split <;> omega

end Vinc.Num
