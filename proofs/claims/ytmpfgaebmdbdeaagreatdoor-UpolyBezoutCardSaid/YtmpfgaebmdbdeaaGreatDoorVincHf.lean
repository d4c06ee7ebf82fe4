/- A product by halves is the product. -/
import Derived.Test.YtmpfgaebmdbdeaaGreatDoorVincUr
set_option linter.unusedSimpArgs false
set_option linter.unusedVariables false
namespace Vinc.Num

/-- A polynomial laid onto a row of numbers, from a place on. -/
def accK (p : Nat) (part : List Nat) (off : Nat) (out : List Nat) : Nat → List Nat
  | 0 => out
  | k + 1 => if part.getD k 0 = 0 then accK p part off out k else (accK p part off out k).set (off + k) (((accK p part off out k).getD (off + k) 0 + part.getD k 0) % p)

theorem length_accK (p : Nat) (part : List Nat) (off : Nat) (out : List Nat) : ∀ k, (accK p part off out k).length = out.length
  | 0 => rfl
  | k + 1 => by
    unfold accK
    split
    · exact length_accK p part off out k
    · rw [List.length_set, length_accK p part off out k]

theorem accK_lt {p : Nat} (hp : 0 < p) (part : List Nat) (off : Nat) (out : List Nat) (h : ∀ j, out.getD j 0 < p) : ∀ k, off + k ≤ out.length → ∀ j, (accK p part off out k).getD j 0 < p
  | 0, _, j => h j
  | k + 1, hk, j => by
    have ih := accK_lt hp part off out h k (by omega)
    unfold accK
    split
    · exact ih j
    · rw [getD_set _ _ _ _ (by rw [length_accK]; omega)]
      split
      · exact Nat.mod_lt _ hp
      · exact ih j

theorem ph_accK {p : Nat} (s : Nat → Int) (part : List Nat) (off : Nat) (out : List Nat) (k : Nat) : ∀ n, n ≤ part.length → off + n ≤ out.length →
    cg p (ph s (accK p part off out n) k) (ph s out k + S (fun j => (part.getD j 0 : Nat) * s (k + off + j)) n)
  | 0, _, _ => cg.of_eq (Int.add_zero _).symm
  | n + 1, h1, h2 => by
    have ih := ph_accK (p := p) s part off out k n (by omega) (by omega)
    have hlen := length_accK p part off out n
    show cg p _ (_ + (S (fun j => ((part.getD j 0 : Nat) : Int) * s (k + off + j)) n + (part.getD n 0 : Nat) * s (k + off + n)))
    unfold accK
    split
    · rename_i h0
      rw [h0]
      refine ih.trans (cg.of_eq ?_)
      have : ((0 : Nat) : Int) * s (k + off + n) = 0 := Int.zero_mul _
      omega
    · generalize accK p part off out n = o at ih hlen ⊢
      rw [ph_set _ _ _ _ _ (by omega)]
      have h3 : cg p (((o.getD (off + n) 0 + part.getD n 0) % p : Nat) - ((o.getD (off + n) 0 : Nat) : Int)) ((part.getD n 0 : Nat) : Int) := by
        refine ((cg.mod _).sub (cg.refl _)).trans (cg.of_eq ?_)
        rw [Int.natCast_add]; omega
      refine (ih.add (h3.mul (cg.refl (s (k + (off + n)))))).trans (cg.of_eq ?_)
      rw [show k + (off + n) = k + off + n by omega]
      omega

theorem ph_split (s : Nat → Int) (a : List Nat) (n k : Nat) : ph s a k = ph s (a.take n) k + ph s (a.drop n) (k + n) := by
  by_cases h : n ≤ a.length
  · have e : a.length = n + (a.length - n) := by omega
    unfold ph
    rw [e, S_split]
    have l1 : (a.take n).length = n := by rw [List.length_take]; omega
    have l2 : (a.drop n).length = a.length - n := List.length_drop
    rw [l1, l2]
    congr 1
    · exact S_congr fun j hj => by
        rw [List.getD_eq_getElem?_getD, List.getD_eq_getElem?_getD, List.getElem?_take_of_lt hj]
    · refine S_congr fun j _ => ?_
      rw [show k + n + j = k + (n + j) by omega]
      have : (a.drop n).getD j 0 = a.getD (n + j) 0 := by
        rw [List.getD_eq_getElem?_getD, List.getD_eq_getElem?_getD, List.getElem?_drop]
      rw [this]
  · rw [List.take_of_length_le (by omega), List.drop_eq_nil_of_le (by omega)]
    exact (Int.add_zero _).symm

theorem ph_shift (s : Nat → Int) (b : List Nat) (n : Nat) (a : List Nat) (k : Nat) : ph (fun i => ph s b (i + n)) a k = pr s a b (k + n) := by
  show S (fun j => ((a.getD j 0 : Nat) : Int) * ph s b (k + j + n)) a.length = S (fun j => ((a.getD j 0 : Nat) : Int) * ph s b (k + n + j)) a.length
  refine S_congr fun j _ => ?_
  rw [show k + j + n = k + n + j by omega]

theorem ph_fun_add (s t : Nat → Int) (a : List Nat) (k : Nat) : ph (fun i => s i + t i) a k = ph s a k + ph t a k := by
  unfold ph
  rw [← S_add]
  exact S_congr fun j _ => Int.mul_add _ _ _

theorem ph_fun_cg {p : Nat} {s t : Nat → Int} (h : ∀ i, cg p (s i) (t i)) (a : List Nat) (k : Nat) : cg p (ph s a k) (ph t a k) := S_cg fun j _ => (cg.refl _).mul (h _)

/-- A product, in four parts. -/
theorem pr_split (s : Nat → Int) (a b : List Nat) (n k : Nat) : pr s a b k = pr s (a.take n) (b.take n) k + pr s (a.take n) (b.drop n) (k + n) + (pr s (a.drop n) (b.take n) (k + n) + pr s (a.drop n) (b.drop n) (k + n + n)) := by
  have e : (fun i => ph s b i) = fun i => ph s (b.take n) i + ph s (b.drop n) (i + n) := by
    funext i; exact ph_split s b n i
  have h1 := ph_split (fun i => ph s b i) a n k
  rw [show pr s a b k = ph (fun i => ph s b i) a k from rfl, h1, e, ph_fun_add, ph_fun_add, ph_shift, ph_shift]

def addN (p : Nat) (a b : List Nat) : List Nat := trimN (addL p a b)
def subN (p : Nat) (a b : List Nat) : List Nat := trimN (subL p a b)

theorem ph_addN {p : Nat} (hp : 0 < p) (s : Nat → Int) (a b : List Nat) (k : Nat) : cg p (ph s (addN p a b) k) (ph s a k + ph s b k) := by
  unfold addN; rw [ph_trim]; exact ph_addL hp s a b k
theorem ph_subN {p : Nat} (hp : 0 < p) (s : Nat → Int) (a b : List Nat) (k : Nat) : cg p (ph s (subN p a b) k) (ph s a k - ph s b k) := by
  unfold subN; rw [ph_trim]; exact ph_subL hp s a b k

/-- The middle part. -/
def midN (p : Nat) (a b : List Nat) (n : Nat) : List Nat :=
  subN p (subN p (oneN p (addN p (a.take n) (a.drop n)) (addN p (b.take n) (b.drop n))) (oneN p (a.take n) (b.take n))) (oneN p (a.drop n) (b.drop n))

theorem ph_mid {p : Nat} (hp : 0 < p) (s : Nat → Int) (a b : List Nat) (n k : Nat) : cg p (ph s (midN p a b n) k) (pr s (a.take n) (b.drop n) k + pr s (a.drop n) (b.take n) k) := by
  unfold midN
  have h0 : cg p (ph s (oneN p (addN p (a.take n) (a.drop n)) (addN p (b.take n) (b.drop n))) k) (pr s (a.take n) (b.take n) k + pr s (a.take n) (b.drop n) k + (pr s (a.drop n) (b.take n) k + pr s (a.drop n) (b.drop n) k)) := by
    refine (ph_one s _ _ k).trans ((ph_addN hp _ _ _ k).trans ?_)
    refine cg.add ?_ ?_
    · refine (ph_fun_cg (fun i => ph_addN hp s _ _ i) _ _).trans (cg.of_eq (ph_fun_add _ _ _ _))
    · refine (ph_fun_cg (fun i => ph_addN hp s _ _ i) _ _).trans (cg.of_eq (ph_fun_add _ _ _ _))
  refine (ph_subN hp s _ _ k).trans (((ph_subN hp s _ _ k).trans (h0.sub (ph_one s _ _ k))).sub (ph_one s _ _ k) |>.trans (cg.of_eq ?_))
  omega

theorem length_oneN' (p : Nat) (a b : List Nat) : (oneN p a b).length = if a.length = 0 ∨ b.length = 0 then 0 else a.length + b.length - 1 := by
  unfold oneN
  split
  · rfl
  · exact length_oneO p a b a.length

theorem mid_len {p : Nat} (hp : 0 < p) (a b : List Nat) (n : Nat) (ha : 0 < a.length) (hb : 0 < b.length) : n + (midN p a b n).length ≤ max n (a.length + b.length - 1) := by
  have hz : Nz p (midN p a b n) := Nz.of_trim (subL_lt hp _ _)
  have e : midN p a b n = trimN (addL p (oneN p (a.take n) (b.drop n)) (oneN p (a.drop n) (b.take n))) :=
    hz.ext_ph (Nz.of_trim (addL_lt hp _ _)) fun s k => by
      rw [ph_trim]
      exact (ph_mid hp s a b n k).trans (((ph_addL hp s _ _ k).trans ((ph_one s _ _ k).add (ph_one s _ _ k))).symm)
  have h1 : (midN p a b n).length ≤ max (oneN p (a.take n) (b.drop n)).length (oneN p (a.drop n) (b.take n)).length := by
    rw [e, length_trimN, ← length_addL p]
    exact trimL_le _ _
  rw [length_oneN', length_oneN', List.length_take, List.length_drop, List.length_take, List.length_drop] at h1
  split at h1 <;> split at h1 <;> omega

/-- What the three parts come to. -/
def joinN (p : Nat) (a b : List Nat) (n : Nat) : List Nat :=
  accK p (oneN p (a.drop n) (b.drop n)) (2 * n) (accK p (midN p a b n) (1 * n) (accK p (oneN p (a.take n) (b.take n)) (0 * n) (List.replicate (a.length + b.length - 1) 0) (oneN p (a.take n) (b.take n)).length) (midN p a b n).length) (oneN p (a.drop n) (b.drop n)).length

theorem low_len (p : Nat) (a b : List Nat) (n : Nat) (ha : 0 < a.length) (hb : 0 < b.length) : 0 * n + (oneN p (a.take n) (b.take n)).length ≤ a.length + b.length - 1 := by
  rw [length_oneN', List.length_take, List.length_take]
  split <;> omega

theorem mid_len' {p : Nat} (hp : 0 < p) (a b : List Nat) (n : Nat) (ha : 0 < a.length) (hb : 0 < b.length) (hn : n ≤ a.length + b.length - 1) : 1 * n + (midN p a b n).length ≤ a.length + b.length - 1 := by
  have := mid_len hp a b n ha hb
  omega

theorem high_len (p : Nat) (a b : List Nat) (n : Nat) (hn : 2 * n ≤ a.length + b.length - 1 ∨ (oneN p (a.drop n) (b.drop n)).length = 0) : (oneN p (a.drop n) (b.drop n)).length = 0 ∨ 2 * n + (oneN p (a.drop n) (b.drop n)).length ≤ a.length + b.length - 1 := by
  rw [length_oneN', List.length_drop, List.length_drop] at *
  split
  · exact .inl rfl
  · exact .inr (by omega)

theorem accK_zero (p : Nat) (part : List Nat) (off : Nat) (out : List Nat) : accK p part off out 0 = out := rfl

theorem join_all {p : Nat} (hp : 0 < p) (a b : List Nat) (n : Nat) (ha : 0 < a.length) (hb : 0 < b.length) (hn : n ≤ a.length + b.length - 1) : joinN p a b n = oneN p a b := by
  have l1 := low_len p a b n ha hb
  have l2 := mid_len' hp a b n ha hb hn
  have l3 : (oneN p (a.drop n) (b.drop n)).length = 0 ∨ 2 * n + (oneN p (a.drop n) (b.drop n)).length ≤ a.length + b.length - 1 := by
    rw [length_oneN', List.length_drop, List.length_drop]
    split
    · exact .inl rfl
    · exact .inr (by omega)
  have hlen : (joinN p a b n).length = a.length + b.length - 1 := by
    unfold joinN
    rw [length_accK, length_accK, length_accK, List.length_replicate]
  have hone : (oneN p a b).length = a.length + b.length - 1 := by rw [length_oneN', if_neg (by omega)]
  obtain ⟨x1, hx1⟩ : ∃ x1, accK p (oneN p (a.take n) (b.take n)) (0 * n) (List.replicate (a.length + b.length - 1) 0) (oneN p (a.take n) (b.take n)).length = x1 := ⟨_, rfl⟩
  obtain ⟨x2, hx2⟩ : ∃ x2, accK p (midN p a b n) (1 * n) x1 (midN p a b n).length = x2 := ⟨_, rfl⟩
  have e1 : x1.length = a.length + b.length - 1 := by rw [← hx1, length_accK, List.length_replicate]
  have e2 : x2.length = a.length + b.length - 1 := by rw [← hx2, length_accK, e1]
  have t1 : ∀ j, x1.getD j 0 < p := by
    rw [← hx1]
    exact accK_lt hp _ _ _ (fun j => by rw [getD_rep]; exact hp) _ (by rw [List.length_replicate]; exact l1)
  have t2 : ∀ j, x2.getD j 0 < p := by
    rw [← hx2]
    exact accK_lt hp _ _ _ t1 _ (by rw [e1]; exact l2)
  have hj : joinN p a b n = accK p (oneN p (a.drop n) (b.drop n)) (2 * n) x2 (oneN p (a.drop n) (b.drop n)).length := by unfold joinN; rw [hx1, hx2]
  have t3 : ∀ j, (joinN p a b n).getD j 0 < p := by
    rw [hj]
    rcases l3 with h | h
    · rw [h]; exact t2
    · exact accK_lt hp _ _ _ t2 _ (by rw [e2]; exact h)
  refine list_eq (by rw [hlen, hone]) fun j _ => co_eq t3 (oneN_lt hp a b) (fun s k => ?_) j
  have p1 : cg p (ph s x1 k) (pr s (a.take n) (b.take n) k) := by
    rw [← hx1]
    refine (ph_accK s _ _ _ k _ (Nat.le_refl _) (by rw [List.length_replicate]; exact l1)).trans ?_
    rw [ph_rep, Int.zero_add, Nat.zero_mul, Nat.add_zero]
    exact ph_one s _ _ k
  have p2 : cg p (ph s x2 k) (ph s x1 k + (pr s (a.take n) (b.drop n) (k + n) + pr s (a.drop n) (b.take n) (k + n))) := by
    rw [← hx2]
    refine (ph_accK s _ _ _ k _ (Nat.le_refl _) (by rw [e1]; exact l2)).trans ((cg.refl _).add ?_)
    rw [Nat.one_mul]
    exact ph_mid hp s a b n (k + n)
  have p3 : cg p (ph s (joinN p a b n) k) (ph s x2 k + pr s (a.drop n) (b.drop n) (k + n + n)) := by
    rw [hj]
    rcases l3 with h | h
    · have hz : pr s (a.drop n) (b.drop n) (k + n + n) = 0 := by
        rw [length_oneN'] at h
        split at h
        · rename_i h0
          rcases h0 with h0 | h0
          · unfold pr ph; rw [h0]; rfl
          · unfold pr
            have : (fun i => ph s (b.drop n) i) = fun _ => 0 := by funext i; unfold ph; rw [h0]; rfl
            rw [this]
            unfold ph
            exact S_zero fun j _ => Int.mul_zero _
        · omega
      rw [h, hz, Int.add_zero]
      exact cg.refl _
    · refine (ph_accK s _ _ _ k _ (Nat.le_refl _) (by rw [e2]; exact h)).trans ((cg.refl _).add ?_)
      have := ph_one (p := p) s (a.drop n) (b.drop n) (k + n + n)
      rw [show k + 2 * n = k + n + n by omega]
      exact this
  refine (p3.trans ((p2.trans (p1.add (cg.refl _))).add (cg.refl _))).trans ((cg.of_eq ?_).trans (ph_one s a b k).symm)
  have := pr_split s a b n k
  omega

end Vinc.Num
