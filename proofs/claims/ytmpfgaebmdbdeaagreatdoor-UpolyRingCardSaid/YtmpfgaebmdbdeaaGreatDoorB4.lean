/- Part 4 of the proof's texts, joined: VincTf, VincTg, VincWs, VincSc, VincRn. -/
import Derived.Test.YtmpfgaebmdbdeaaGreatDoorB3

/- Transforms at some points (tft), on lists: values, whole; back again. No program in sight.  -/
set_option linter.unusedVariables false
namespace Vinc.Num

/-- s, squared so many times. -/
def sqK (p : Nat) : Nat → Nat → Nat
  | 0, s => s
  | n + 1, s => sqK p n s * sqK p n s % p

def sumL (p c h : Nat) (l : List Nat) : List Nat := tabL (fun i => (l.getD i 0 + c * l.getD (h + i) 0 % p) % p) h
def lessL (p c h : Nat) (l : List Nat) : List Nat := tabL (fun i => sb (l.getD i 0) (c * l.getD (h + i) 0 % p) p) h

/-- The values at the first n points. -/
def vals (p : Nat) (r : Nat → Nat) : Nat → Nat → List Nat → Nat → List Nat
  | 0, s, l, n => if n = 0 then [] else [l.getD 0 0]
  | k + 1, s, l, n => if n = 0 then [] else
    vals p r k s (sumL p (sqK p k s) (l.length / 2) l) (min n (l.length / 2)) ++
      (if n > l.length / 2 then vals p r k (s * r (k + 1) % p) (lessL p (sqK p k s) (l.length / 2) l) (n - l.length / 2) else [])

/-- The polynomial again: its first values, and its coefficients from as many on. -/
def whol (p : Nat) (r : Nat → Nat) (half : Nat) (iv : Nat → Nat) : Nat → Nat → List Nat → List Nat → List Nat
  | 0, s, vs, kn => if vs.length = 0 then kn else vs
  | k + 1, s, vs, kn => if vs.length = 0 then kn else
    if vs.length < 2 ^ k then
      let high := kn.drop (2 ^ k - vs.length)
      let u := whol p r half iv k s vs (tabL (fun i => (kn.getD i 0 + sqK p k s * high.getD (vs.length + i) 0 % p) % p) (2 ^ k - vs.length))
      tabL (fun i => if i < 2 ^ k then sb (u.getD i 0) (sqK p k s * high.getD i 0 % p) p else high.getD (i - 2 ^ k) 0) (2 * 2 ^ k)
    else
      let u := whol p r half iv k s (vs.take (2 ^ k)) []
      let v := whol p r half iv k (s * r (k + 1) % p) (vs.drop (2 ^ k)) (tabL (fun i => sb (u.getD (vs.length - 2 ^ k + i) 0) ((sqK p k s + sqK p k s) % p * kn.getD i 0 % p) p) kn.length)
      tabL (fun i => if i < 2 ^ k then half * ((u.getD i 0 + v.getD i 0) % p) % p else iv (sqK p k s) * (half * sb (u.getD (i - 2 ^ k) 0) (v.getD (i - 2 ^ k) 0) p % p) % p) (2 * 2 ^ k)

theorem len_tabL (f : Nat → Nat) (n : Nat) : (tabL f n).length = n := by simp [tabL]

theorem len_sumL (p c h : Nat) (l : List Nat) : (sumL p c h l).length = h := len_tabL _ _
theorem len_lessL (p c h : Nat) (l : List Nat) : (lessL p c h l).length = h := len_tabL _ _

theorem vals_zero (p : Nat) (r : Nat → Nat) : ∀ k s l, vals p r k s l 0 = []
  | 0, _, _ => rfl
  | _ + 1, _, _ => rfl

theorem vals_len (p : Nat) (r : Nat → Nat) : ∀ k s l n, l.length = 2 ^ k → n ≤ 2 ^ k → (vals p r k s l n).length = n
  | 0, s, l, n, hl, hn => by
    unfold vals
    split
    · rename_i h; rw [h]; rfl
    · have : (2 : Nat) ^ 0 = 1 := rfl
      show 1 = n
      omega
  | k + 1, s, l, n, hl, hn => by
    have e : 2 ^ (k + 1) = 2 ^ k * 2 := Nat.pow_succ 2 k
    have hh : l.length / 2 = 2 ^ k := by omega
    unfold vals
    split
    · rename_i h; rw [h]; rfl
    · rw [hh, List.length_append, vals_len p r k s _ _ (len_sumL _ _ _ _) (by omega)]
      split
      · rw [vals_len p r k _ _ _ (len_lessL _ _ _ _) (by omega)]
        omega
      · show _ + 0 = n
        omega

/-- A number that is invertible. -/
def Un (p x : Nat) : Prop := ∃ t : Int, cg p ((x : Int) * t) 1

theorem Un.mul {p x y : Nat} (hx : Un p x) (hy : Un p y) : Un p (x * y % p) := by
  obtain ⟨t, ht⟩ := hx
  obtain ⟨u, hu⟩ := hy
  refine ⟨t * u, (((cg.mod (x * y)).trans (cg.of_eq (Int.natCast_mul x y))).mul (cg.refl _)).trans ((cg.of_eq ?_).trans ((ht.mul hu).trans (cg.of_eq rfl)))⟩
  rw [Int.mul_assoc, Int.mul_assoc, Int.mul_left_comm (y : Int) t u]

theorem Un.sq {p s : Nat} (hs : Un p s) : ∀ n, Un p (sqK p n s)
  | 0 => hs
  | n + 1 => (Un.sq hs n).mul (Un.sq hs n)

theorem list_ext {xs ys : List Nat} {n : Nat} (h1 : xs.length = n) (h2 : ys.length = n) (h : ∀ j, j < n → xs.getD j 0 = ys.getD j 0) : xs = ys :=
  list_eq (h1.trans h2.symm) fun j hj => h j (by omega)

theorem drop_getD (l : List Nat) (n j : Nat) : (l.drop n).getD j 0 = l.getD (n + j) 0 := by
  rw [List.getD_eq_getElem?_getD, List.getD_eq_getElem?_getD, List.getElem?_drop]

theorem cg_add2 {p : Nat} (x y : Nat) : cg p (((x + y) % p : Nat) : Int) ((x : Int) + y) := (cg.mod (x + y)).trans (cg.of_eq (Int.natCast_add x y))
theorem cg_mul2 {p : Nat} (x y : Nat) : cg p ((x * y % p : Nat) : Int) ((x : Int) * y) := (cg.mod (x * y)).trans (cg.of_eq (Int.natCast_mul x y))

/-- BACK AGAIN. -/
theorem whol_vals {p : Nat} {r : Nat → Nat} {half : Nat} {iv : Nat → Nat} (hp : 1 < p) (hhalf : cg p ((half : Int) * 2) 1) (hiv : ∀ c, Un p c → cg p ((iv c : Int) * c) 1) (hr : ∀ k, Un p (r k)) :
    ∀ k s L n, Un p s → L.length = 2 ^ k → (∀ j, L.getD j 0 < p) → n ≤ 2 ^ k → whol p r half iv k s (vals p r k s L n) (L.drop n) = L
  | 0, s, L, n, hs, hl, hlt, hn => by
    have e : (2 : Nat) ^ 0 = 1 := rfl
    have hl1 : L.length = 1 := hl
    unfold vals whol
    by_cases h0 : n = 0
    · rw [if_pos h0, h0]; rfl
    · rw [if_neg h0]
      show [L.getD 0 0] = L
      match L, hl1 with
      | [x], _ => rfl
  | k + 1, s, L, n, hs, hl, hlt, hn => by
    have hp0 : 0 < p := by omega
    have e : 2 ^ (k + 1) = 2 ^ k * 2 := Nat.pow_succ 2 k
    have hh : L.length / 2 = 2 ^ k := by omega
    have hk0 : 0 < 2 ^ k := Nat.pow_pos (by decide)
    by_cases h0 : n = 0
    · rw [h0, vals_zero]; rfl
    have hvl := vals_len p r (k + 1) s L n hl hn
    obtain ⟨c, hc⟩ : ∃ c, sqK p k s = c := ⟨_, rfl⟩
    have hcu : Un p c := hc ▸ hs.sq k
    have hcv := hiv c hcu
    have hsum : ∀ i, i < 2 ^ k → (sumL p c (2 ^ k) L).getD i 0 = (L.getD i 0 + c * L.getD (2 ^ k + i) 0 % p) % p := fun i hi => by
      unfold sumL
      rw [getD_tabL, if_pos hi]
    have hless : ∀ i, i < 2 ^ k → (lessL p c (2 ^ k) L).getD i 0 = sb (L.getD i 0) (c * L.getD (2 ^ k + i) 0 % p) p := fun i hi => by
      unfold lessL
      rw [getD_tabL, if_pos hi]
    have csum : ∀ i, cg p (((L.getD i 0 + c * L.getD (2 ^ k + i) 0 % p) % p : Nat) : Int) ((L.getD i 0 : Int) + c * L.getD (2 ^ k + i) 0) := fun i => (cg_add2 _ _).trans ((cg.refl _).add (cg_mul2 _ _))
    have cless : ∀ i, cg p ((sb (L.getD i 0) (c * L.getD (2 ^ k + i) 0 % p) p : Nat) : Int) ((L.getD i 0 : Int) - c * L.getD (2 ^ k + i) 0) := fun i => (cg.sb hp0 _ _).trans ((cg.refl _).sub (cg_mul2 _ _))
    have hslt : ∀ j, (sumL p c (2 ^ k) L).getD j 0 < p := fun j => by
      unfold sumL
      rw [getD_tabL]
      split
      · exact Nat.mod_lt _ hp0
      · exact hp0
    have hllt : ∀ j, (lessL p c (2 ^ k) L).getD j 0 < p := fun j => by
      unfold lessL
      rw [getD_tabL]
      split
      · exact sb_lt hp0 _ _
      · exact hp0
    have ih1 := fun n hn => whol_vals (r := r) hp hhalf hiv hr k s (sumL p c (2 ^ k) L) n hs (len_sumL _ _ _ _) hslt hn
    have ih2 := fun n hn => whol_vals (r := r) hp hhalf hiv hr k (s * r (k + 1) % p) (lessL p c (2 ^ k) L) n (hs.mul (hr (k + 1))) (len_lessL _ _ _ _) hllt hn
    have hV : vals p r (k + 1) s L n = vals p r k s (sumL p c (2 ^ k) L) (min n (2 ^ k)) ++ vals p r k (s * r (k + 1) % p) (lessL p c (2 ^ k) L) (n - 2 ^ k) := by
      show (if n = 0 then [] else _) = _
      rw [if_neg h0, hc, hh]
      congr 1
      by_cases hgt : n > 2 ^ k
      · rw [if_pos hgt]
      · rw [if_neg hgt, show n - 2 ^ k = 0 by omega, vals_zero]
    rw [hV] at hvl ⊢
    unfold whol
    rw [if_neg (by omega), hvl, hc]
    by_cases hlt2 : n < 2 ^ k
    · rw [if_pos hlt2, show n - 2 ^ k = 0 by omega, vals_zero, List.append_nil, Nat.min_eq_left (by omega)]
      have htail : tabL (fun i => ((L.drop n).getD i 0 + c * ((L.drop n).drop (2 ^ k - n)).getD (n + i) 0 % p) % p) (2 ^ k - n) = (sumL p c (2 ^ k) L).drop n := by
        refine list_ext (len_tabL _ _) (by rw [List.length_drop]; unfold sumL; rw [len_tabL]) fun j hj => ?_
        rw [getD_tabL, if_pos hj, drop_getD, drop_getD, drop_getD, drop_getD, hsum _ (by omega), show n + (2 ^ k - n + (n + j)) = 2 ^ k + (n + j) by omega]
      dsimp only
      rw [htail, ih1 n (by omega)]
      refine list_ext (len_tabL _ _) (by omega) fun j hj => ?_
      rw [getD_tabL, if_pos hj]
      split
      · rename_i hj2
        rw [hsum j hj2, drop_getD, drop_getD, show n + (2 ^ k - n + j) = 2 ^ k + j by omega]
        refine cg.eq_of_lt ((cg.sb hp0 _ _).trans (((csum j).sub (cg_mul2 _ _)).trans (cg.of_eq (by omega)))) (sb_lt hp0 _ _) (hlt j)
      · rename_i hj2
        rw [drop_getD, drop_getD, show n + (2 ^ k - n + (j - 2 ^ k)) = j by omega]
    · rw [if_neg hlt2, Nat.min_eq_right (by omega)]
      have hl1 := vals_len p r k s (sumL p c (2 ^ k) L) (2 ^ k) (len_tabL _ _) (Nat.le_refl _)
      have hu := ih1 (2 ^ k) (Nat.le_refl _)
      rw [List.drop_of_length_le (show (sumL p c (2 ^ k) L).length ≤ 2 ^ k by unfold sumL; rw [len_tabL]; exact Nat.le_refl _)] at hu
      rw [List.take_left' hl1, List.drop_left' hl1]
      dsimp only
      rw [hu]
      have htail : tabL (fun i => sb ((sumL p c (2 ^ k) L).getD (n - 2 ^ k + i) 0) ((c + c) % p * (L.drop n).getD i 0 % p) p) (L.drop n).length = (lessL p c (2 ^ k) L).drop (n - 2 ^ k) := by
        refine list_ext (len_tabL _ _) (by rw [List.length_drop, List.length_drop]; unfold lessL; rw [len_tabL]; omega) fun j hj => ?_
        rw [List.length_drop] at hj
        rw [getD_tabL, if_pos (by rw [List.length_drop]; exact hj), drop_getD, drop_getD, hsum _ (by omega), hless _ (by omega), show 2 ^ k + (n - 2 ^ k + j) = n + j by omega]
        have h1 := csum (n - 2 ^ k + j)
        have h2 := cless (n - 2 ^ k + j)
        rw [show 2 ^ k + (n - 2 ^ k + j) = n + j by omega] at h1 h2
        refine cg.eq_of_lt ((cg.sb hp0 _ _).trans ((h1.sub ((cg_mul2 _ _).trans ((cg_add2 c c).mul (cg.refl _)))).trans (cg.trans (cg.of_eq ?_) h2.symm))) (sb_lt hp0 _ _) (sb_lt hp0 _ _)
        rw [Int.add_mul]
        omega
      rw [htail, ih2 (n - 2 ^ k) (by omega)]
      refine list_ext (len_tabL _ _) (by omega) fun j hj => ?_
      rw [getD_tabL, if_pos hj]
      split
      · rename_i hj2
        rw [hsum j hj2, hless j hj2]
        refine cg.eq_of_lt ((cg_mul2 _ _).trans (((cg.refl _).mul ((cg_add2 _ _).trans ((csum j).add (cless j)))).trans ?_)) (Nat.mod_lt _ hp0) (hlt j)
        refine (cg.of_eq (?_ : _ = ((half : Int) * 2) * (L.getD j 0 : Int))).trans ((hhalf.mul (cg.refl _)).trans (cg.of_eq (Int.one_mul _)))
        rw [Int.mul_assoc]
        congr 1
        omega
      · rename_i hj2
        have hj3 : j - 2 ^ k < 2 ^ k := by omega
        rw [hsum _ hj3, hless _ hj3]
        have h1 := csum (j - 2 ^ k)
        have h2 := cless (j - 2 ^ k)
        rw [show 2 ^ k + (j - 2 ^ k) = j by omega] at h1 h2 ⊢
        refine cg.eq_of_lt ((cg_mul2 _ _).trans (((cg.refl _).mul ((cg_mul2 _ _).trans ((cg.refl _).mul ((cg.sb hp0 _ _).trans (h1.sub h2))))).trans ?_)) (Nat.mod_lt _ hp0) (hlt j)
        refine (cg.of_eq (?_ : _ = (((half : Int) * 2) * (((iv c : Nat) : Int) * (c : Int))) * (L.getD j 0 : Int))).trans (((hhalf.mul hcv).mul (cg.refl _)).trans (cg.of_eq (by rw [Int.one_mul, Int.one_mul])))
        generalize (L.getD j 0 : Int) = z
        generalize (L.getD (j - 2 ^ k) 0 : Int) = y
        generalize (((iv c : Nat)) : Int) = x
        rw [show y + (c : Int) * z - (y - (c : Int) * z) = 2 * ((c : Int) * z) by omega]
        rw [Int.mul_assoc, Int.mul_assoc, Int.mul_left_comm x, Int.mul_left_comm x, Int.mul_assoc]

end Vinc.Num

/- Transforms at some points: the values are those at points; so products. No program in sight. -/
set_option linter.unusedVariables false
namespace Vinc.Num

/-- The points. -/
def pts (p : Nat) (r : Nat → Nat) : Nat → Nat → Nat → Nat
  | 0, s, _ => s
  | k + 1, s, i => if i < 2 ^ k then pts p r k s i else pts p r k (s * r (k + 1) % p) (i - 2 ^ k)

theorem sqK_mul (p s t : Nat) : ∀ n, cg p ((sqK p n (s * t % p) : Nat) : Int) (((sqK p n s : Nat) : Int) * (sqK p n t : Nat))
  | 0 => cg_mul2 s t
  | n + 1 => by
    have h := sqK_mul p s t n
    have e : (((sqK p n s : Nat) : Int) * (sqK p n t : Nat)) * (((sqK p n s : Nat) : Int) * (sqK p n t : Nat)) = (((sqK p n s : Nat) : Int) * (sqK p n s : Nat)) * (((sqK p n t : Nat) : Int) * (sqK p n t : Nat)) := by
      rw [Int.mul_assoc, Int.mul_assoc, Int.mul_left_comm ((sqK p n t : Nat) : Int)]
    exact (cg_mul2 _ _).trans ((h.mul h).trans ((cg.of_eq e).trans ((cg_mul2 _ _).symm.mul (cg_mul2 _ _).symm)))

theorem sqK_add (p s b : Nat) : ∀ a, sqK p a (sqK p b s) = sqK p (a + b) s
  | 0 => by rw [Nat.zero_add]; rfl
  | a + 1 => by
    rw [show a + 1 + b = (a + b) + 1 by omega]
    show sqK p a _ * sqK p a _ % p = sqK p (a + b) s * sqK p (a + b) s % p
    rw [sqK_add p s b a]

theorem px_sqK {p : Nat} (x : Nat) : ∀ n, cg p (px x (2 ^ n)) ((sqK p n x : Nat) : Int)
  | 0 => cg.of_eq (by show ((x ^ 1 : Nat) : Int) = (x : Int); rw [Nat.pow_one])
  | n + 1 => by
    have e : 2 ^ (n + 1) = 2 ^ n + 2 ^ n := by rw [Nat.pow_succ]; omega
    rw [e, px_add]
    exact ((px_sqK x n).mul (px_sqK x n)).trans (cg_mul2 _ _).symm

theorem pts_sq {p : Nat} {r : Nat → Nat} {K : Nat} (hr : ∀ k, k < K → cg p ((sqK p k (r (k + 1)) : Nat) : Int) (-1)) : ∀ k s i, k ≤ K → cg p ((sqK p k (pts p r k s i) : Nat) : Int) ((sqK p k s : Nat) : Int)
  | 0, s, i, _ => cg.refl _
  | k + 1, s, i, hk => by
    unfold pts
    split
    · have h := pts_sq hr k s i (by omega)
      exact (cg_mul2 _ _).trans ((h.mul h).trans (cg_mul2 _ _).symm)
    · have h := (pts_sq hr k (s * r (k + 1) % p) (i - 2 ^ k) (by omega)).trans ((sqK_mul p s (r (k + 1)) k).trans ((cg.refl _).mul (hr k (by omega))))
      exact (cg_mul2 _ _).trans ((h.mul h).trans ((cg.of_eq (by rw [Int.mul_neg_one, Int.neg_mul_neg])).trans (cg_mul2 _ _).symm))

theorem ev_tab (x : Nat) (f : Nat → Nat) (n : Nat) : ev x (tabL f n) = S (fun j => ((f j : Nat) : Int) * px x j) n := by
  unfold ev ph
  rw [len_tabL]
  refine S_congr fun j hj => ?_
  rw [getD_tabL, if_pos hj, Nat.zero_add]

theorem ev_S (x : Nat) (l : List Nat) (n : Nat) (h : l.length ≤ n) : ev x l = S (fun j => ((l.getD j 0 : Nat) : Int) * px x j) n := by
  unfold ev
  rw [ph_more (px x) l 0 n h]
  exact S_congr fun j _ => by rw [Nat.zero_add]

theorem ev_fold {p : Nat} {x h : Nat} {l : List Nat} {g : Nat → Nat} {c : Int} (hl : l.length ≤ h + h) (hc : cg p (px x h) c) (hg : ∀ i, i < h → cg p ((g i : Nat) : Int) ((l.getD i 0 : Int) + c * l.getD (h + i) 0)) :
    cg p (ev x (tabL g h)) (ev x l) := by
  rw [ev_tab, ev_S x l (h + h) hl, S_split, ← S_add]
  refine S_cg fun i hi => ?_
  refine ((hg i hi).mul (cg.refl _)).trans ?_
  rw [px_add, Int.add_mul]
  refine (cg.refl _).add ?_
  refine (cg.of_eq (?_ : _ = c * (((l.getD (h + i) 0 : Nat) : Int) * px x i))).trans ((hc.symm.mul (cg.refl _)).trans (cg.of_eq ?_))
  · rw [Int.mul_assoc]
  · rw [Int.mul_left_comm]

theorem vals_succ (p : Nat) (r : Nat → Nat) (k s : Nat) (l : List Nat) (n : Nat) (hl : l.length = 2 ^ (k + 1)) :
    vals p r (k + 1) s l n = vals p r k s (sumL p (sqK p k s) (2 ^ k) l) (min n (2 ^ k)) ++ vals p r k (s * r (k + 1) % p) (lessL p (sqK p k s) (2 ^ k) l) (n - 2 ^ k) := by
  have e : 2 ^ (k + 1) = 2 ^ k * 2 := Nat.pow_succ 2 k
  have hh : l.length / 2 = 2 ^ k := by omega
  by_cases h0 : n = 0
  · rw [h0, Nat.zero_min, Nat.zero_sub, vals_zero, vals_zero, vals_zero]; rfl
  · show (if n = 0 then [] else _) = _
    rw [if_neg h0, hh]
    congr 1
    by_cases hgt : n > 2 ^ k
    · rw [if_pos hgt]
    · rw [if_neg hgt, show n - 2 ^ k = 0 by omega, vals_zero]

theorem getD_append (a b : List Nat) (i : Nat) : (a ++ b).getD i 0 = if i < a.length then a.getD i 0 else b.getD (i - a.length) 0 := by
  rw [List.getD_eq_getElem?_getD, List.getD_eq_getElem?_getD, List.getD_eq_getElem?_getD]
  split
  · rename_i h; rw [List.getElem?_append_left h]
  · rename_i h; rw [List.getElem?_append_right (by omega)]

theorem vals_at {p : Nat} {r : Nat → Nat} {K : Nat} (hp : 0 < p) (hr : ∀ k, k < K → cg p ((sqK p k (r (k + 1)) : Nat) : Int) (-1)) :
    ∀ k s l n i, k ≤ K → l.length = 2 ^ k → n ≤ 2 ^ k → i < n → cg p (((vals p r k s l n).getD i 0 : Nat) : Int) (ev (pts p r k s i) l)
  | 0, s, l, n, i, _, hl, hn, hi => by
    have e0 : (2 : Nat) ^ 0 = 1 := rfl
    have hi0 : i = 0 := by omega
    have hn1 : n ≠ 0 := by omega
    unfold vals pts
    rw [if_neg hn1, hi0]
    match l, hl with
    | [x], _ => exact cg.of_eq (ev_single s x).symm
  | k + 1, s, l, n, i, hk, hl, hn, hi => by
    have e : 2 ^ (k + 1) = 2 ^ k * 2 := Nat.pow_succ 2 k
    rw [vals_succ p r k s l n hl, getD_append, vals_len p r k s _ _ (len_sumL _ _ _ _) (by omega)]
    unfold pts
    by_cases h : i < 2 ^ k
    · rw [if_pos (by omega), if_pos h]
      refine (vals_at hp hr k s _ _ i (by omega) (len_sumL _ _ _ _) (by omega) (by omega)).trans ?_
      refine ev_fold (by omega) ((px_sqK _ k).trans (pts_sq hr k s i (by omega))) fun j hj => ?_
      exact (cg_add2 _ _).trans ((cg.refl _).add (cg_mul2 _ _))
    · rw [if_neg (by omega), if_neg h, Nat.min_eq_right (by omega)]
      refine (vals_at hp hr k (s * r (k + 1) % p) _ _ (i - 2 ^ k) (by omega) (len_lessL _ _ _ _) (by omega) (by omega)).trans ?_
      have h2 := (pts_sq hr k (s * r (k + 1) % p) (i - 2 ^ k) (by omega)).trans ((sqK_mul p s (r (k + 1)) k).trans ((cg.refl _).mul (hr k (by omega))))
      refine ev_fold (by omega) ((px_sqK _ k).trans h2) fun j hj => ?_
      refine (cg.sb hp _ _).trans (((cg.refl _).sub (cg_mul2 _ _)).trans (cg.of_eq ?_))
      rw [Int.mul_neg_one, Int.neg_mul]
      rfl

theorem vals_lt {p : Nat} {r : Nat → Nat} (hp : 0 < p) : ∀ k s l n i, l.length = 2 ^ k → n ≤ 2 ^ k → (∀ j, l.getD j 0 < p) → (vals p r k s l n).getD i 0 < p
  | 0, s, l, n, i, _, _, hl => by
    unfold vals
    split
    · exact hp
    · cases i with
      | zero => exact hl 0
      | succ i => exact hp
  | k + 1, s, l, n, i, hll, hn, hl => by
    have e : 2 ^ (k + 1) = 2 ^ k * 2 := Nat.pow_succ 2 k
    rw [vals_succ p r k s l n hll, getD_append]
    split
    · refine vals_lt hp k s _ _ _ (len_sumL _ _ _ _) (by omega) fun j => ?_
      unfold sumL
      rw [getD_tabL]
      split
      · exact Nat.mod_lt _ hp
      · exact hp
    · refine vals_lt hp k _ _ _ _ (len_lessL _ _ _ _) (by omega) fun j => ?_
      unfold lessL
      rw [getD_tabL]
      split
      · exact sb_lt hp _ _
      · exact hp

/-- A polynomial modulo p, and 0 behind it. -/
def padN (p n : Nat) (l : List Nat) : List Nat := tabL (fun i => l.getD i 0 % p) n

theorem padN_lt {p : Nat} (hp : 0 < p) (n : Nat) (l : List Nat) (j : Nat) : (padN p n l).getD j 0 < p := by
  unfold padN
  rw [getD_tabL]
  split
  · exact Nat.mod_lt _ hp
  · exact hp

theorem ev_pad {p : Nat} (x n : Nat) (l : List Nat) (h : l.length ≤ n) : cg p (ev x (padN p n l)) (ev x l) := by
  unfold padN
  rw [ev_tab, ev_S x l n h]
  exact S_cg fun j _ => (cg.mod _).mul (cg.refl _)

theorem ev_one {p : Nat} (x : Nat) (a b : List Nat) : cg p (ev x (oneN p a b)) (ev x a * ev x b) := by
  have h := ev_times (p := p) x a b
  unfold ev timesN at h
  rw [ph_trim] at h
  exact h

/-- The values of a product, one by one. -/
def prodV (p : Nat) (r : Nat → Nat) (K : Nat) (a b : List Nat) (n : Nat) : List Nat := tabL (fun i => (vals p r K 1 (padN p (2 ^ K) a) n).getD i 0 * (vals p r K 1 (padN p (2 ^ K) b) n).getD i 0 % p) n

/-- A product by its values. -/
def mulT (p : Nat) (r : Nat → Nat) (half : Nat) (iv : Nat → Nat) (K : Nat) (a b : List Nat) : List Nat :=
  (whol p r half iv K 1 (prodV p r K a b (a.length + b.length - 1)) (List.replicate (2 ^ K - (a.length + b.length - 1)) 0)).take (a.length + b.length - 1)

theorem mulT_eq {p : Nat} {r : Nat → Nat} {half : Nat} {iv : Nat → Nat} {K : Nat} (hp : 1 < p) (hhalf : cg p ((half : Int) * 2) 1) (hiv : ∀ c, Un p c → cg p ((iv c : Int) * c) 1) (hru : ∀ k, Un p (r k))
    (hr : ∀ k, k < K → cg p ((sqK p k (r (k + 1)) : Nat) : Int) (-1)) (a b : List Nat) (ha : 0 < a.length) (hb : 0 < b.length) (hn : a.length + b.length - 1 ≤ 2 ^ K) : mulT p r half iv K a b = oneN p a b := by
  have hp0 : 0 < p := by omega
  have hl : (oneN p a b).length = a.length + b.length - 1 := by rw [length_oneN', if_neg (by omega)]
  obtain ⟨n, hnn⟩ : ∃ n, a.length + b.length - 1 = n := ⟨_, rfl⟩
  unfold mulT
  rw [hnn] at hl hn ⊢
  obtain ⟨C, hC⟩ : ∃ C, oneN p a b = C := ⟨_, rfl⟩
  have hpl : ∀ l, (padN p (2 ^ K) l).length = 2 ^ K := fun l => len_tabL _ _
  have e1 : prodV p r K a b n = vals p r K 1 (padN p (2 ^ K) C) n := by
    refine list_ext (n := n) (len_tabL _ _) (vals_len p r K 1 _ n (hpl C) hn) fun j hj => ?_
    unfold prodV
    rw [getD_tabL, if_pos hj]
    refine cg.eq_of_lt ?_ (Nat.mod_lt _ hp0) (vals_lt hp0 K 1 _ n j (hpl C) hn (padN_lt hp0 _ _))
    refine (cg_mul2 _ _).trans ?_
    refine ((vals_at hp0 hr K 1 _ n j (Nat.le_refl _) (hpl a) hn hj).mul (vals_at hp0 hr K 1 _ n j (Nat.le_refl _) (hpl b) hn hj)).trans ?_
    refine cg.trans ?_ (vals_at hp0 hr K 1 _ n j (Nat.le_refl _) (hpl C) hn hj).symm
    refine ((ev_pad _ _ a (by omega)).mul (ev_pad _ _ b (by omega))).trans (cg.trans ?_ (ev_pad _ _ C (by rw [← hC]; omega)).symm)
    rw [← hC]
    exact (ev_one _ a b).symm
  have e2 : List.replicate (2 ^ K - n) 0 = (padN p (2 ^ K) C).drop n := by
    refine list_ext (n := 2 ^ K - n) List.length_replicate (by rw [List.length_drop, hpl]) fun j hj => ?_
    rw [drop_getD]
    unfold padN
    rw [getD_tabL, if_pos (by omega), getD_ge (a := C) (by rw [← hC]; omega), Nat.zero_mod]
    rw [List.getD_eq_getElem?_getD, List.getElem?_replicate, if_pos hj]
    rfl
  have hUn1 : Un p 1 := ⟨1, cg.refl _⟩
  rw [e1, e2, whol_vals hp hhalf hiv hru K 1 _ n hUn1 (hpl C) (padN_lt hp0 _ _) hn, ← hC]
  refine list_ext (n := n) (by rw [List.length_take, hpl]; omega) (by rw [hC] at hl ⊢; exact hl) fun j hj => ?_
  have hlt : (oneN p a b).getD j 0 < p := oneN_lt hp0 a b j
  rw [List.getD_eq_getElem?_getD, List.getElem?_take, if_pos hj, ← List.getD_eq_getElem?_getD]
  unfold padN
  rw [getD_tabL, if_pos (by omega), Nat.mod_eq_of_lt hlt]

/-! ### one root, and its squares -/

theorem Un.of_sq {p s : Nat} : ∀ n, Un p (sqK p n s) → Un p s
  | 0, h => h
  | n + 1, ⟨t, ht⟩ => Un.of_sq n ⟨((sqK p n s : Nat) : Int) * t, ((cg.of_eq (Int.mul_assoc _ _ _).symm).trans ((cg_mul2 _ _).symm.mul (cg.refl _))).trans ht⟩

theorem Un.pred {p : Nat} (hp : 0 < p) : Un p (p - 1) := ⟨-1, ((cg.pred hp).mul (cg.refl _)).trans (cg.of_eq rfl)⟩

/-- The product by a root's powers. -/
theorem mulT_root {p w half : Nat} {iv : Nat → Nat} {K : Nat} (hp : 1 < p) (hhalf : 0 < K → cg p ((half : Int) * 2) 1) (hodd : p % 2 = 1) (hiv : ∀ c, Un p c → cg p ((iv c : Int) * c) 1)
    (hw : (K = 0 ∧ w = 1) ∨ (0 < K ∧ sqK p (K - 1) w = p - 1)) (a b : List Nat) (ha : 0 < a.length) (hb : 0 < b.length) (hn : a.length + b.length - 1 ≤ 2 ^ K) :
    mulT p (fun i => sqK p (K - i) w) half iv K a b = oneN p a b := by
  rcases hw with ⟨rfl, rfl⟩ | ⟨h0, hw⟩
  · have h2 : cg p ((((p + 1) / 2 : Nat) : Int) * 2) 1 := ⟨1, by omega⟩
    have key : mulT p (fun i => sqK p (0 - i) 1) half iv 0 a b = mulT p (fun i => sqK p (0 - i) 1) ((p + 1) / 2) iv 0 a b := rfl
    rw [key]
    exact mulT_eq hp h2 hiv (fun k => Un.sq ⟨1, cg.refl _⟩ _) (fun k hk => absurd hk (Nat.not_lt_zero k)) a b ha hb hn
  · have hu : Un p w := Un.of_sq (K - 1) (hw ▸ Un.pred (by omega))
    refine mulT_eq hp (hhalf h0) hiv (fun k => Un.sq hu _) (fun k hk => ?_) a b ha hb hn
    rw [sqK_add, show k + (K - (k + 1)) = K - 1 by omega, hw]
    exact cg.pred (by omega)

end Vinc.Num

/- Numbers as words: sums, products by a word, what is left; numbers told by what is left of them; coefficients of a product over the integers. No program in sight. -/
set_option linter.unusedVariables false
namespace Vinc.Num

def BW : Nat := 18446744073709551616
theorem BW_pos : 0 < BW := by decide
theorem BW_pow (j : Nat) : 0 < BW ^ j := Nat.pow_pos BW_pos

/-- The word at a place. -/
def dig (n j : Nat) : Nat := n / BW ^ j % BW

/-- A number's words. -/
def wds (n : Nat) : List Nat := trimN (tabL (dig n) 8)

theorem dig_lt (n j : Nat) : dig n j < BW := Nat.mod_lt _ BW_pos
theorem dig_lt' (n j : Nat) : dig n j < 18446744073709551616 := dig_lt n j

theorem dig_ge {n i j : Nat} (h : n < BW ^ i) (hij : i ≤ j) : dig n j = 0 := by
  unfold dig
  rw [Nat.div_eq_of_lt (Nat.lt_of_lt_of_le h (Nat.pow_le_pow_right BW_pos hij)), Nat.zero_mod]

theorem getD_wds {n : Nat} (h : n < BW ^ 8) (j : Nat) : (wds n).getD j 0 = dig n j := by
  unfold wds
  rw [getD_trim, getD_tabL]
  split
  · rfl
  · rw [dig_ge h (by omega)]

theorem trim_dig {n L : Nat} (h : n < BW ^ 8) (hL : n < BW ^ L) : trimN (tabL (dig n) L) = wds n := by
  refine trimN_ext fun j => ?_
  rw [getD_tabL, getD_tabL]
  split
  · split
    · rfl
    · rw [dig_ge h (by omega)]
  · split
    · rw [dig_ge hL (by omega)]
    · rfl

theorem len_wds {n L : Nat} (h : n < BW ^ 8) (hL : n < BW ^ L) : (wds n).length ≤ L := by
  rw [← trim_dig h hL, length_trimN, len_tabL]
  exact trimL_le _ _

theorem wds_len8 (n : Nat) : (wds n).length ≤ 8 := by
  unfold wds
  rw [length_trimN, len_tabL]
  exact trimL_le _ _

theorem trim_wds (n : Nat) : trimN (wds n) = wds n := trimN_trimN _

/-- A number lies below the power that its length tells. -/
theorem lt_wds {n : Nat} (h : n < BW ^ 8) : n < BW ^ (wds n).length := by
  have key : ∀ i, n < BW ^ ((wds n).length + i) → n < BW ^ (wds n).length := fun i => by
    induction i with
    | zero => exact id
    | succ i ih =>
      intro h1
      refine ih ?_
      have h2 : dig n ((wds n).length + i) = 0 := by
        rw [← getD_wds h]
        exact getD_ge (by omega)
      unfold dig at h2
      rw [← Nat.add_assoc, Nat.pow_succ, Nat.mul_comm] at h1
      have h3 : n / BW ^ ((wds n).length + i) < BW := Nat.div_lt_of_lt_mul (by rw [Nat.mul_comm]; exact h1)
      rw [Nat.mod_eq_of_lt h3] at h2
      rcases Nat.div_eq_zero_iff.mp h2 with h4 | h4
      · exact absurd h4 (Nat.ne_of_gt (BW_pow _))
      · exact h4
  have := wds_len8 n
  exact key (8 - (wds n).length) (by rw [show (wds n).length + (8 - (wds n).length) = 8 by omega]; exact h)

theorem wds_zero : wds 0 = [] := by decide +kernel

theorem BW8 {n : Nat} (h : n < BW) : n < BW ^ 8 := Nat.lt_of_lt_of_le h (by decide)

theorem wds_word {w : Nat} (h : w < BW) : wds w = trimN [w] := by
  rw [← trim_dig (L := 1) (BW8 h) (by rw [Nat.pow_one]; exact h)]
  have : tabL (dig w) 1 = [w] := by
    show [dig w 0] = [w]
    unfold dig
    rw [Nat.pow_zero, Nat.div_one, Nat.mod_eq_of_lt h]
  rw [this]

theorem wds_pos {n : Nat} (h : n < BW ^ 8) (h0 : 0 < n) : 0 < (wds n).length := by
  have := lt_wds h
  rcases Nat.eq_zero_or_pos (wds n).length with h1 | h1
  · rw [h1, Nat.pow_zero] at this; omega
  · exact h1

theorem wds_one {w : Nat} (h : w < BW) (h0 : 0 < w) : wds w = [w] := by
  rw [wds_word h]
  unfold trimN
  have : trimL [w] [w].length = 1 := by
    show trimL [w] 1 = 1
    unfold trimL
    rw [show [w].getD 0 0 = w from rfl]
    simp
    omega
  rw [this]; rfl

/-- From the top down. -/
theorem div_dig (n i : Nat) : n / BW ^ i = n / BW ^ (i + 1) * BW + dig n i := by
  unfold dig
  rw [Nat.pow_succ, ← Nat.div_div_eq_div_mul, Nat.mul_comm, Nat.div_add_mod]

/-! ### sums -/

def carA (x y i : Nat) : Nat := (x % BW ^ i + y % BW ^ i) / BW ^ i

theorem mod_dig (x i : Nat) : x % BW ^ (i + 1) = x % BW ^ i + BW ^ i * dig x i := Nat.mod_pow_succ

theorem carA_zero (x y : Nat) : carA x y 0 = 0 := by
  unfold carA
  rw [Nat.pow_zero, Nat.mod_one, Nat.mod_one]

theorem carA_le (x y i : Nat) : carA x y i ≤ 1 := by
  unfold carA
  have h1 := Nat.mod_lt x (BW_pow i)
  have h2 := Nat.mod_lt y (BW_pow i)
  have : (x % BW ^ i + y % BW ^ i) / BW ^ i < 2 := Nat.div_lt_of_lt_mul (by omega)
  omega

theorem carA_succ (x y i : Nat) : carA x y (i + 1) = (dig x i + dig y i + carA x y i) / BW := by
  unfold carA
  rw [mod_dig, mod_dig, show x % BW ^ i + BW ^ i * dig x i + (y % BW ^ i + BW ^ i * dig y i) = (x % BW ^ i + y % BW ^ i) + BW ^ i * (dig x i + dig y i) by rw [Nat.mul_add]; omega,
    Nat.pow_succ, ← Nat.div_div_eq_div_mul, Nat.add_mul_div_left _ _ (BW_pow i), Nat.add_comm]

theorem dig_add (x y i : Nat) : dig (x + y) i = (dig x i + dig y i + carA x y i) % BW := by
  have e : x + y = (x % BW ^ i + y % BW ^ i) + BW ^ i * (x / BW ^ i + y / BW ^ i) := by
    have h1 := Nat.mod_add_div x (BW ^ i)
    have h2 := Nat.mod_add_div y (BW ^ i)
    rw [Nat.mul_add]; omega
  unfold dig
  conv => lhs; rw [e]
  rw [Nat.add_mul_div_left _ _ (BW_pow i)]
  show (carA x y i + _) % BW = _
  rw [Nat.add_comm]
  conv => lhs; rw [Nat.add_mod, Nat.add_mod (x / BW ^ i)]
  conv => rhs; rw [Nat.add_mod]

/-! ### times a word -/

def carM (x w i : Nat) : Nat := x % BW ^ i * w / BW ^ i

theorem carM_zero (x w : Nat) : carM x w 0 = 0 := by
  unfold carM
  rw [Nat.pow_zero, Nat.mod_one, Nat.zero_mul, Nat.zero_div]

theorem carM_le {x w i : Nat} (h0 : 0 < w) : carM x w i < w := by
  unfold carM
  exact Nat.div_lt_of_lt_mul (Nat.mul_lt_mul_of_pos_right (Nat.mod_lt _ (BW_pow i)) h0)

theorem carM_lt {x w i : Nat} (hw : w < BW) : carM x w i < BW := by
  rcases Nat.eq_zero_or_pos w with h | h
  · unfold carM
    rw [h, Nat.mul_zero, Nat.zero_div]
    exact BW_pos
  · exact Nat.lt_trans (carM_le h) hw

theorem carM_succ (x w i : Nat) : carM x w (i + 1) = (dig x i * w + carM x w i) / BW := by
  unfold carM
  rw [mod_dig, show (x % BW ^ i + BW ^ i * dig x i) * w = x % BW ^ i * w + BW ^ i * (dig x i * w) by rw [Nat.add_mul, Nat.mul_assoc],
    Nat.pow_succ, ← Nat.div_div_eq_div_mul, Nat.add_mul_div_left _ _ (BW_pow i), Nat.add_comm]

theorem dig_mul (x w i : Nat) : dig (x * w) i = (dig x i * w + carM x w i) % BW := by
  have e : x * w = x % BW ^ i * w + BW ^ i * (x / BW ^ i * w) := by
    conv => lhs; rw [← Nat.mod_add_div x (BW ^ i)]
    rw [Nat.add_mul, Nat.mul_assoc]
  unfold dig
  conv => lhs; rw [e]
  rw [Nat.add_mul_div_left _ _ (BW_pow i)]
  show (carM x w i + _) % BW = _
  rw [Nat.add_comm]
  conv => lhs; rw [Nat.add_mod, Nat.mul_mod]
  conv => rhs; rw [Nat.add_mod, Nat.mul_mod, Nat.mod_mod]

/-- The last carry is the highest word. -/
theorem carM_last {x w L : Nat} (hx : x < BW ^ L) (hw : w < BW) : carM x w L = dig (x * w) L := by
  have h : x * w / BW ^ L < BW := Nat.div_lt_of_lt_mul (Nat.lt_of_le_of_lt (Nat.mul_le_mul_right _ (Nat.le_of_lt hx)) (Nat.mul_lt_mul_of_pos_left hw (BW_pow L)))
  unfold carM dig
  rw [Nat.mod_eq_of_lt hx, Nat.mod_eq_of_lt h]

theorem mul_lt {x w L : Nat} (hx : x < BW ^ L) (hw : w < BW) : x * w < BW ^ (L + 1) := by
  rw [Nat.pow_succ]
  exact Nat.mul_lt_mul'' hx hw

/-! ### what is left -/

/-- A word of a quotient. -/
def quoD (n w i : Nat) : Nat := (n / BW ^ (i + 1) % w * BW + dig n i) / w

theorem left_step (n w i : Nat) : n / BW ^ i % w = (n / BW ^ (i + 1) % w * BW + dig n i) % w := by
  conv => lhs; rw [div_dig n i]
  conv => lhs; rw [Nat.add_mod, Nat.mul_mod]
  conv => rhs; rw [Nat.add_mod, Nat.mul_mod, Nat.mod_mod]

/-! ### one number is less -/

theorem top_lt {x y i : Nat} (h : x / BW ^ (i + 1) = y / BW ^ (i + 1)) (hd : dig x i < dig y i) : x < y := by
  have h1 := div_dig x i
  have h2 := div_dig y i
  rw [h] at h1
  have h3 : x / BW ^ i < y / BW ^ i := by omega
  rcases Nat.lt_or_ge x y with h4 | h4
  · exact h4
  · exact absurd (Nat.div_le_div_right (c := BW ^ i) h4) (by omega)

theorem len_lt {x y : Nat} (hx : x < BW ^ 8) (hy : y < BW ^ 8) (h : x < y) : (wds x).length ≤ (wds y).length :=
  len_wds hx (Nat.lt_trans h (lt_wds hy))

theorem top_eq {x y i : Nat} (h : x / BW ^ (i + 1) = y / BW ^ (i + 1)) (hd : dig x i = dig y i) : x / BW ^ i = y / BW ^ i := by
  rw [div_dig x i, div_dig y i, h, hd]

/-! ### told by what is left -/

theorem crt_step {all m c inv : Nat} (h0 : 0 < all) (hm : 0 < m) (hinv : cg m ((inv : Int) * (all : Int)) 1) :
    c % all + all * (sb (c % m) (c % all % m) m * inv % m) = c % (all * m) := by
  have e : sb (c % m) (c % all % m) m * inv % m = c / all % m := by
    refine cg.eq_of_lt ?_ (Nat.mod_lt _ hm) (Nat.mod_lt _ hm)
    refine (cg_mul2 _ _).trans (cg.trans ?_ (cg.mod _).symm)
    have h1 : cg m ((sb (c % m) (c % all % m) m : Nat) : Int) ((c : Int) - (c % all : Nat)) := (cg.sb hm _ _).trans ((cg.mod c).sub (cg.mod _))
    have h2 : (c : Int) - (c % all : Nat) = (all : Int) * ((c / all : Nat) : Int) := by
      have := Nat.div_add_mod c all
      have h3 : ((all * (c / all) + c % all : Nat) : Int) = (c : Int) := by rw [this]
      rw [Int.natCast_add, Int.natCast_mul] at h3
      omega
    rw [h2] at h1
    refine (h1.mul (cg.refl _)).trans ?_
    refine (cg.of_eq (?_ : _ = ((inv : Int) * (all : Int)) * ((c / all : Nat) : Int))).trans ((hinv.mul (cg.refl _)).trans (cg.of_eq (Int.one_mul _)))
    rw [Int.mul_comm, ← Int.mul_assoc]
  rw [e, Nat.mod_mul]

/-! ### coefficients over the integers -/

def cZ (a b : List Nat) (t : Nat) : Nat := (pr (dl t) a b 0).toNat

theorem S_bound {f : Nat → Int} {M : Int} (hM : 0 ≤ M) : ∀ {n : Nat}, (∀ j, j < n → 0 ≤ f j ∧ f j ≤ M) → 0 ≤ S f n ∧ S f n ≤ n * M
  | 0, _ => ⟨Int.le_refl _, by rw [show ((0 : Nat) : Int) = 0 from rfl, Int.zero_mul]; exact Int.le_refl _⟩
  | n + 1, h => by
    have ih := S_bound hM (n := n) fun j hj => h j (by omega)
    have h1 := h n (by omega)
    have e : S f (n + 1) = S f n + f n := rfl
    rw [e, Int.natCast_add, Int.add_mul, show ((1 : Nat) : Int) * M = M from Int.one_mul M]
    omega

theorem pr_bound {a b : List Nat} {M : Nat} (ha : ∀ j, a.getD j 0 ≤ M) (hb : ∀ j, b.getD j 0 ≤ M) (t : Nat) : 0 ≤ pr (dl t) a b 0 ∧ pr (dl t) a b 0 ≤ a.length * ((M : Int) * M) := by
  unfold pr
  show 0 ≤ S _ a.length ∧ S _ a.length ≤ _
  refine S_bound (Int.mul_nonneg (by omega) (by omega)) fun j hj => ?_
  have h1 := ha j
  have h2 : 0 ≤ ph (dl t) b (0 + j) ∧ ph (dl t) b (0 + j) ≤ (M : Int) := by
    rw [ph_dl]
    split
    · have := hb (t - (0 + j)); omega
    · omega
  exact ⟨Int.mul_nonneg (by omega) h2.1, Int.mul_le_mul (by omega) h2.2 h2.1 (by omega)⟩

theorem pr_nonneg (a b : List Nat) (t : Nat) : 0 ≤ pr (dl t) a b 0 := by
  show 0 ≤ S _ a.length
  have key : ∀ n, 0 ≤ S (fun j => ((a.getD j 0 : Nat) : Int) * ph (dl t) b (0 + j)) n := fun n => by
    induction n with
    | zero => exact Int.le_refl _
    | succ n ih =>
      refine Int.add_nonneg ih (Int.mul_nonneg (by omega) ?_)
      rw [ph_dl]
      split <;> omega
  exact key _

theorem cZ_cast (a b : List Nat) (t : Nat) : ((cZ a b t : Nat) : Int) = pr (dl t) a b 0 := by
  have := pr_nonneg a b t
  unfold cZ
  omega

theorem cZ_le {a b : List Nat} {M : Nat} (ha : ∀ j, a.getD j 0 ≤ M) (hb : ∀ j, b.getD j 0 ≤ M) (t : Nat) : cZ a b t ≤ a.length * (M * M) := by
  have h := (pr_bound ha hb t).2
  rw [← cZ_cast, ← Int.natCast_mul, ← Int.natCast_mul] at h
  omega

theorem one_cZ {p : Nat} (hp : 0 < p) (a b : List Nat) (t : Nat) : (oneN p a b).getD t 0 = cZ a b t % p := by
  refine cg.eq_of_lt ?_ (oneN_lt hp a b t) (Nat.mod_lt _ hp)
  have h := ph_one (p := p) (dl t) a b 0
  rw [ph_dl0, ← cZ_cast] at h
  exact h.trans (cg.mod _).symm

end Vinc.Num

/- The primes and roots by which long products are done: what the search for them finds. No program in sight. -/
set_option linter.unusedVariables false
namespace Vinc.Num

/-- The search: the greatest primes c * unit + 1, from a c down. -/
def scanF (unit many : Nat) : Nat → Nat → List Nat → Option (List Nat)
  | 0, _, _ => none
  | f + 1, c, l => bif Nat.beq c 0 then none else
    bif Nat.beq (bif isB (c * unit + 1) then l ++ [c * unit + 1] else l).length many then some (bif isB (c * unit + 1) then l ++ [c * unit + 1] else l)
    else scanF unit many f (c - 1) (bif isB (c * unit + 1) then l ++ [c * unit + 1] else l)

/-- How often x is squared until it is 1. -/
def ordF (p : Nat) : Nat → Nat → Nat → Option Nat
  | 0, _, _ => none
  | f + 1, i, x => bif Nat.beq x 1 then some i else ordF p f (i + 1) (x * x % p)

/-- The search for a root. -/
def rootF (p k : Nat) : Nat → Nat → Option Nat
  | 0, _ => none
  | f + 1, x => match ordF p 63 0 (x ^ ((p - 1) / 2 ^ k) % p) with
    | some n => bif Nat.beq n k then some (x ^ ((p - 1) / 2 ^ k) % p) else rootF p k f (x + 1)
    | none => rootF p k f (x + 1)

/-- The same, as it is best reckoned. -/
def rootG (p k : Nat) : Nat → Nat → Option Nat
  | 0, _ => none
  | f + 1, x => match ordF p 63 0 (pw64 p x ((p - 1) / 2 ^ k)) with
    | some n => bif Nat.beq n k then some (pw64 p x ((p - 1) / 2 ^ k)) else rootG p k f (x + 1)
    | none => rootG p k f (x + 1)

theorem rootG_eq {p k : Nat} (hp : 2 ≤ p) (hp64 : p < 18446744073709551616) : ∀ f x, rootF p k f x = rootG p k f x
  | 0, _ => rfl
  | f + 1, x => by
    unfold rootF rootG
    rw [pw64_eq hp (by have := Nat.div_le_self (p - 1) (2 ^ k); omega), rootG_eq hp hp64 f (x + 1)]

/-- The three primes for products of up to 2 to the kth coefficients. -/
def psK : Nat → List Nat
  | 0 | 1 => [9223372036854775783, 9223372036854775643, 9223372036854775549]
  | 2 => [9223372036854775549, 9223372036854775433, 9223372036854775421]
  | 3 => [9223372036854775433, 9223372036854775417, 9223372036854775337]
  | 4 => [9223372036854775073, 9223372036854775057, 9223372036854774257]
  | 5 => [9223372036854775073, 9223372036854773953, 9223372036854772961]
  | 6 => [9223372036854773953, 9223372036854772801, 9223372036854772289]
  | 7 => [9223372036854771841, 9223372036854771457, 9223372036854769921]
  | 8 => [9223372036854771457, 9223372036854769921, 9223372036854759169]
  | 9 => [9223372036854758401, 9223372036854747649, 9223372036854739969]
  | 10 => [9223372036854758401, 9223372036854739969, 9223372036854675457]
  | _ => [9223372036854675457, 9223372036854618113, 9223372036854577153]

/-- Their roots. -/
def wsK : Nat → List Nat
  | 0 => [1, 1, 1]
  | 1 => [9223372036854775782, 9223372036854775642, 9223372036854775548]
  | 2 => [3240558518817831482, 4356728387855522395, 5957454225690676611]
  | 3 => [4171426351174236828, 9083263216379227541, 3678001215674680786]
  | 4 => [6197969915787216100, 1633667126224019131, 2172903541480721882]
  | 5 => [7835475340502372977, 3760621604606042148, 2630916589930923272]
  | 6 => [1691991740783081649, 561106209391689530, 5969981657168524058]
  | 7 => [1598563982634849241, 6973550306676766557, 6209844642865335594]
  | 8 => [1058895290328109755, 6646220132331114116, 1417817542785933510]
  | 9 => [8120564366590232957, 725603811935211601, 5916304675994044514]
  | 10 => [8514983230644668327, 6780269603835813919, 8886898994144263040]
  | _ => [9049461781042640807, 6585993709167047253, 3722812363231182686]

theorem scan_all : ∀ k, k < 12 → scanF (2 ^ max k 1) 3 200 (9223372036854775806 / 2 ^ max k 1) [] = some (psK k) := by decide +kernel

theorem root_all : ∀ k, k < 12 → ∀ i, i < 3 → rootG ((psK k).getD i 0) k 40 1 = some ((wsK k).getD i 0) := by decide +kernel

theorem ps_isB : ∀ k, k < 12 → ∀ i, i < 3 → isB ((psK k).getD i 0) = true := by decide +kernel

theorem ps_fits : ∀ k, k < 12 → ∀ i, i < 3 → 9223372036850000000 < (psK k).getD i 0 ∧ (psK k).getD i 0 < 9223372036854775808 ∧ (psK k).getD i 0 % 2 = 1 ∧ ((psK k).getD i 0 - 1) % 2 ^ k = 0 := by decide +kernel

theorem ps_gcd : ∀ k, k < 12 → Nat.gcd ((psK k).getD 0 0) ((psK k).getD 1 0) = 1 ∧ Nat.gcd ((psK k).getD 0 0 * (psK k).getD 1 0) ((psK k).getD 2 0) = 1 := by decide +kernel

theorem ws_pred : ∀ k, k < 12 → ∀ i, i < 3 → 0 < k → sqK ((psK k).getD i 0) (k - 1) ((wsK k).getD i 0) = (psK k).getD i 0 - 1 := by decide +kernel

theorem ws_lt : ∀ k, k < 12 → ∀ i, i < 3 → (wsK k).getD i 0 < (psK k).getD i 0 := by decide +kernel

theorem ps_len : ∀ k, k < 12 → (psK k).length = 3 := by decide +kernel

theorem ps_list {k : Nat} (hk : k < 12) : psK k = [(psK k).getD 0 0, (psK k).getD 1 0, (psK k).getD 2 0] := by
  have h := ps_len k hk
  match psK k, h with
  | [a, b, c], _ => rfl

end Vinc.Num

/- Polynomials are a ring: the derivative of a product, values of sums and products. No program in sight. -/
set_option linter.unusedVariables false
namespace Vinc.Num

theorem deriveN_nz {p : Nat} (hp : 0 < p) (a : List Nat) : Nz p (deriveN p a) := Nz.of_trim fun j => by
  rw [getD_tabL]
  split
  · exact Nat.mod_lt _ hp
  · exact hp

theorem deriveN_len (p : Nat) (a : List Nat) : (deriveN p a).length ≤ a.length := by
  unfold deriveN
  rw [length_trimN]
  have h := trimL_le (tabL (fun i => a.getD (i + 1) 0 * (i + 1) % p) (a.length - 1)) (tabL (fun i => a.getD (i + 1) 0 * (i + 1) % p) (a.length - 1)).length
  rw [show (tabL (fun i => a.getD (i + 1) 0 * (i + 1) % p) (a.length - 1)).length = a.length - 1 by simp [tabL]] at h ⊢
  omega

/-- What a derivative makes of a row. -/
def dS (s : Nat → Int) (k : Nat) : Nat → Int := fun j => (j : Int) * s (k + j - 1)

theorem ph_derive {p : Nat} (s : Nat → Int) (a : List Nat) (k : Nat) : cg p (ph s (deriveN p a) k) (ph (dS s k) a 0) := by
  unfold deriveN
  rw [ph_trim]
  have hl : (tabL (fun i => a.getD (i + 1) 0 * (i + 1) % p) (a.length - 1)).length = a.length - 1 := by simp [tabL]
  unfold ph
  rw [hl]
  rcases Nat.eq_zero_or_pos a.length with h0 | h0
  · rw [h0]; exact cg.refl _
  have e : S (fun j => ((a.getD j 0 : Nat) : Int) * dS s k (0 + j)) a.length = S (fun j => ((a.getD (1 + j) 0 : Nat) : Int) * dS s k (0 + (1 + j))) (a.length - 1) := by
    have h := S_split (fun j => ((a.getD j 0 : Nat) : Int) * dS s k (0 + j)) 1 (a.length - 1)
    rw [show 1 + (a.length - 1) = a.length by omega] at h
    rw [h]
    have h1 : S (fun j => ((a.getD j 0 : Nat) : Int) * dS s k (0 + j)) 1 = 0 := by
      show (0 : Int) + ((a.getD 0 0 : Nat) : Int) * ((0 : Nat) * s (k + 0 - 1)) = 0
      simp
    rw [h1, Int.zero_add]
  rw [e]
  refine S_cg fun j hj => ?_
  rw [getD_tabL, if_pos hj]
  have h1 : cg p ((a.getD (j + 1) 0 * (j + 1) % p : Nat) : Int) (((a.getD (j + 1) 0 : Nat) : Int) * ((j + 1 : Nat) : Int)) := (cg.mod _).trans (cg.of_eq (Int.natCast_mul _ _))
  refine (h1.mul (cg.refl _)).trans (cg.of_eq ?_)
  unfold dS
  rw [show 0 + (1 + j) = j + 1 by omega, show k + (j + 1) - 1 = k + j by omega, show 1 + j = j + 1 by omega, Int.mul_assoc]

theorem dS_add (s : Nat → Int) (b : List Nat) (k i : Nat) : ph (dS s k) b i = (i : Int) * ph s b (k + i - 1) + ph (dS s (k + i)) b 0 := by
  unfold ph
  rw [← S_mul, ← S_add]
  refine S_congr fun j _ => ?_
  unfold dS
  rw [Nat.zero_add]
  rcases Nat.eq_zero_or_pos i with h | h
  · subst h
    simp
  · rw [show k + (i + j) - 1 = k + i - 1 + j by omega, show k + i + j - 1 = k + i - 1 + j by omega, Int.natCast_add, Int.add_mul, Int.mul_add, Int.mul_left_comm]

/-- LEIBNIZ. -/
theorem leibniz {p : Nat} (hp : 0 < p) (a b : List Nat) : deriveN p (timesN p (normN p a) (normN p b)) = addN p (timesN p (deriveN p a) (normN p b)) (timesN p (normN p a) (deriveN p b)) := by
  refine (deriveN_nz hp _).ext_ph (addN_nz hp _ _) fun s k => ?_
  refine (ph_derive s _ k).trans ?_
  refine (ph_timesN (dS s k) (normN p a) (normN p b) 0).trans ?_
  refine cg.trans ?_ (ph_addN hp s _ _ k).symm
  have h1 : cg p (ph s (timesN p (deriveN p a) (normN p b)) k) (ph (dS (fun i => ph s (normN p b) i) k) (normN p a) 0) :=
    (ph_timesN s _ _ k).trans ((ph_derive (fun i => ph s (normN p b) i) a k).trans (ph_norm _ a 0).symm)
  have h2 : cg p (ph s (timesN p (normN p a) (deriveN p b)) k) (S (fun i => (((normN p a).getD i 0 : Nat) : Int) * ph (dS s (k + i)) (normN p b) 0) (normN p a).length) := by
    refine (ph_timesN s _ _ k).trans ?_
    show cg p (S (fun i => (((normN p a).getD i 0 : Nat) : Int) * ph s (deriveN p b) (k + i)) (normN p a).length) _
    exact S_cg fun i _ => (cg.refl _).mul ((ph_derive s b (k + i)).trans (ph_norm _ b 0).symm)
  refine cg.trans (cg.of_eq ?_) (h1.add h2).symm
  show S (fun i => (((normN p a).getD i 0 : Nat) : Int) * ph (dS s k) (normN p b) (0 + i)) (normN p a).length = S (fun i => (((normN p a).getD i 0 : Nat) : Int) * dS (fun i => ph s (normN p b) i) k (0 + i)) (normN p a).length + _
  rw [← S_add]
  refine S_congr fun i _ => ?_
  rw [Nat.zero_add, dS_add s (normN p b) k i, Int.mul_add]
  rfl

theorem eval_mul {p : Nat} (hp : 0 < p) (x : Nat) (a b : List Nat) : evalN p x (timesN p (normN p a) (normN p b)) = evalN p x a * evalN p x b % p := by
  refine evalN_of hp (Nat.mod_lt _ hp) ?_
  refine (ev_times x _ _).trans (((ev_norm x a).mul (ev_norm x b)).trans (cg.trans ?_ (cg.mod _).symm))
  rw [Int.natCast_mul]
  exact ((evalN_cg x a).mul (evalN_cg x b)).symm

theorem eval_add {p : Nat} (hp : 0 < p) (x : Nat) (a b : List Nat) : evalN p x (addN p a b) = (evalN p x a + evalN p x b) % p := by
  refine evalN_of hp (Nat.mod_lt _ hp) ?_
  refine (ev_add hp x a b).trans (cg.trans ?_ (cg.mod _).symm)
  rw [Int.natCast_add]
  exact ((evalN_cg x a).add (evalN_cg x b)).symm

theorem times_norm_add {p : Nat} (hp : 0 < p) (a b c : List Nat) : timesN p a (normN p (addN p b c)) = addN p (timesN p a (normN p b)) (timesN p a (normN p c)) := by
  rw [(addN_nz hp b c).norm_id hp, times_add' hp, timesN_comm hp a (normN p b), timesN_comm hp a (normN p c), times_norm hp, times_norm hp, timesN_comm hp b a, timesN_comm hp c a]

end Vinc.Num
