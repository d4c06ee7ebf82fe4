/- What the code of recur and of its reference computes, as functions on lists of numbers. -/
import Derived.Test.YtmpfgaebmdbdeaaGreatDoorVincS
set_option linter.unusedSimpArgs false
namespace Vinc.Num

/-- What is left of a difference. -/
def sb (x y m : Nat) : Nat := (x % m + m - y % m) % m

def missF (p : Nat) (r row : List Nat) (i0 : Nat) : Nat → Nat
  | 0 => row.getD i0 0 % p
  | i + 1 => (missF p r row i0 i + r.getD i 0 * row.getD (i0 - 1 - i) 0 % p) % p

def missN (p : Nat) (r row : List Nat) (i0 : Nat) : Nat := missF p r row i0 r.length

def grownN (r : List Nat) (n : Nat) : List Nat := r ++ List.replicate (n - r.length) 0

structure FS where
  now : List Nat
  old : List Nat
  was : Nat
  gap : Nat

/-- The terms that are taken off a rule. -/
def updN (p t : Nat) (old : List Nat) (gap : Nat) (xs : List Nat) : Nat → List Nat
  | 0 => xs
  | i + 1 => (updN p t old gap xs i).set (gap + i) (sb ((updN p t old gap xs i).getD (gap + i) 0) (t * old.getD i 0 % p) p)

def headN (p t : Nat) (gap : Nat) (xs : List Nat) : List Nat := xs.set (gap - 1) (sb (xs.getD (gap - 1) 0) t p)

def nextN (iv : Nat → Nat) (p d : Nat) (s : FS) : List Nat :=
  updN p (d * iv s.was % p) s.old s.gap (headN p (d * iv s.was % p) s.gap (grownN s.now (s.gap + s.old.length))) s.old.length

def stepN (iv : Nat → Nat) (p : Nat) (row : List Nat) (s : FS) (i : Nat) : FS :=
  if missN p s.now row i = 0 then ⟨s.now, s.old, s.was, s.gap + 1⟩
  else if i < 2 * s.now.length then ⟨nextN iv p (missN p s.now row i) s, s.old, s.was, s.gap + 1⟩
  else ⟨grownN (nextN iv p (missN p s.now row i) s) (i + 1 - s.now.length), s.now, missN p s.now row i, 1⟩

def findN (iv : Nat → Nat) (p : Nat) (row : List Nat) : Nat → FS
  | 0 => ⟨[], [], 1 % p, 1⟩
  | n + 1 => stepN iv p row (findN iv p row n) n

theorem length_updN (p t : Nat) (old : List Nat) (gap : Nat) (xs : List Nat) : ∀ i, (updN p t old gap xs i).length = xs.length
  | 0 => rfl
  | i + 1 => by simp [updN, length_updN p t old gap xs i]

theorem length_headN (p t gap : Nat) (xs : List Nat) : (headN p t gap xs).length = xs.length := by simp [headN]

theorem length_grownN (r : List Nat) (n : Nat) : (grownN r n).length = max n r.length := by simp [grownN]; omega

theorem getD_grownN (r : List Nat) (n j : Nat) : (grownN r n).getD j 0 = if j < r.length then r.getD j 0 else 0 := by
  unfold grownN
  rw [List.getD_eq_getElem?_getD, List.getElem?_append]
  split
  · rw [List.getD_eq_getElem?_getD]
  · rw [List.getElem?_replicate]; split <;> rfl

theorem length_nextN (iv : Nat → Nat) (p d : Nat) (s : FS) : (nextN iv p d s).length = max (s.gap + s.old.length) s.now.length := by
  simp [nextN, length_updN, length_headN, length_grownN]

/-- What is known of the lengths. -/
def FOk (s : FS) (n : Nat) : Prop := s.now.length + s.gap + s.old.length = n + 1 ∧ 1 ≤ s.gap

theorem stepN_ok (iv : Nat → Nat) (p : Nat) (row : List Nat) (s : FS) (n : Nat) (h : FOk s n) : FOk (stepN iv p row s n) (n + 1) := by
  obtain ⟨h1, h2⟩ := h
  unfold stepN
  split
  · exact ⟨by dsimp only; omega, by dsimp only; omega⟩
  · split
    · refine ⟨?_, by dsimp only; omega⟩
      show (nextN iv p _ s).length + (s.gap + 1) + s.old.length = _
      rw [length_nextN]; omega
    · refine ⟨?_, Nat.le_refl 1⟩
      show (grownN (nextN iv p _ s) _).length + 1 + s.now.length = _
      rw [length_grownN, length_nextN]; omega

theorem findN_ok (iv : Nat → Nat) (p : Nat) (row : List Nat) : ∀ n, FOk (findN iv p row n) n
  | 0 => ⟨rfl, Nat.le_refl 1⟩
  | n + 1 => stepN_ok iv p row _ n (findN_ok iv p row n)

/-! ### rules and rows -/

def charN (p : Nat) (r : List Nat) : List Nat := r.reverse.map (· % p) ++ [1]

theorem length_charN (p : Nat) (r : List Nat) : (charN p r).length = r.length + 1 := by simp [charN]

theorem charN_last (p : Nat) (r : List Nat) : (charN p r).getD r.length 0 = 1 := by
  simp [charN, List.getD_eq_getElem?_getD, List.getElem?_append]

theorem charN_at (p : Nat) (r : List Nat) (j : Nat) (hj : j < r.length) : (charN p r).getD j 0 = r.getD (r.length - 1 - j) 0 % p := by
  have h2 : r.length - 1 - j < r.length := by omega
  simp [charN, List.getD_eq_getElem?_getD, List.getElem?_append, hj, List.getElem?_reverse hj, h2]

/-- The rule's polynomial, as it is made. -/
def charK (p : Nat) (r : List Nat) : Nat → List Nat
  | 0 => (List.replicate (r.length + 1) 0).set r.length 1
  | i + 1 => (charK p r i).set (r.length - 1 - i) (r.getD i 0 % p)

theorem length_charK (p : Nat) (r : List Nat) : ∀ i, (charK p r i).length = r.length + 1
  | 0 => by simp [charK]
  | i + 1 => by simp [charK, length_charK p r i]

theorem charK_at (p : Nat) (r : List Nat) : ∀ i, i ≤ r.length → ∀ j, j ≤ r.length → (charK p r i).getD j 0 = if j = r.length then 1 else if r.length - 1 - j < i then r.getD (r.length - 1 - j) 0 % p else 0
  | 0, _, j, hj => by
    unfold charK
    rw [getD_set _ _ _ _ (by simp), getD_rep]
    simp
  | i + 1, hi, j, hj => by
    unfold charK
    rw [getD_set _ _ _ _ (by rw [length_charK]; omega), charK_at p r i (by omega) j hj]
    by_cases h1 : j = r.length
    · rw [if_neg (by omega), if_pos h1, if_pos h1]
    · rw [if_neg h1, if_neg h1]
      by_cases h2 : j = r.length - 1 - i
      · have h3 : r.length - 1 - j = i := by omega
        rw [if_pos h2, h3, if_pos (by omega)]
      · rw [if_neg h2]
        by_cases h3 : r.length - 1 - j < i
        · rw [if_pos h3, if_pos (by omega)]
        · rw [if_neg h3, if_neg (by omega)]

theorem charK_all (p : Nat) (r : List Nat) : charK p r r.length = charN p r := by
  refine list_eq (by rw [length_charK, length_charN]) fun j hj => ?_
  rw [length_charK] at hj
  rw [charK_at p r r.length (Nat.le_refl _) j (by omega)]
  by_cases h : j = r.length
  · rw [if_pos h, h, charN_last]
  · rw [if_neg h, if_pos (by omega), charN_at p r j (by omega)]

/-- Does a row go on by a rule? -/
def holdsB (p : Nat) (r row : List Nat) : Bool := decide (∀ i, i < row.length → r.length ≤ i → missN p r row i = 0)

/-- Numbers that are taken modulo p one by one. -/
def modK (p : Nat) (row : List Nat) : Nat → List Nat
  | 0 => row
  | i + 1 => (modK p row i).set i ((modK p row i).getD i 0 % p)

theorem length_modK (p : Nat) (row : List Nat) : ∀ i, (modK p row i).length = row.length
  | 0 => rfl
  | i + 1 => by simp [modK, length_modK p row i]

theorem modK_at (p : Nat) (row : List Nat) : ∀ i, i ≤ row.length → ∀ j, (modK p row i).getD j 0 = if j < i then row.getD j 0 % p else row.getD j 0
  | 0, _, j => by simp [modK]
  | i + 1, hi, j => by
    unfold modK
    rw [getD_set _ _ _ _ (by rw [length_modK]; omega), modK_at p row i (by omega) i, modK_at p row i (by omega) j, if_neg (Nat.lt_irrefl i)]
    by_cases h : j = i
    · rw [if_pos h, h, if_pos (by omega)]
    · rw [if_neg h]
      by_cases h2 : j < i
      · rw [if_pos h2, if_pos (by omega)]
      · rw [if_neg h2, if_neg (by omega)]

theorem modK_all (p : Nat) (row : List Nat) : modK p row row.length = row.map (· % p) := by
  refine list_eq (by rw [length_modK, List.length_map]) fun j hj => ?_
  rw [length_modK] at hj
  rw [modK_at p row _ (Nat.le_refl _), if_pos hj]
  simp [List.getD_eq_getElem?_getD, hj]

theorem set_last (ys : List Nat) (v : Nat) : (ys ++ [0]).set ys.length v = ys ++ [v] := by simp

def moreN (p : Nat) (r xs : List Nat) : Nat → List Nat
  | 0 => xs
  | n + 1 => moreN p r xs n ++ [sb 0 (missN p r (moreN p r xs n ++ [0]) (moreN p r xs n).length) p]

theorem length_moreN (p : Nat) (r xs : List Nat) : ∀ n, (moreN p r xs n).length = xs.length + n
  | 0 => rfl
  | n + 1 => by simp [moreN, length_moreN p r xs n]; omega

/-! ### the reference -/

def nextF (p : Nat) (r row : List Nat) : Nat → Nat
  | 0 => 0
  | i + 1 => (nextF p r row i + r.getD i 0 * row.getD (row.length - 1 - i) 0 % p) % p

def refNext (p : Nat) (r row : List Nat) : Nat := sb 0 (nextF p r row r.length) p

def refMore (p : Nat) (r xs : List Nat) : Nat → List Nat
  | 0 => xs
  | n + 1 => refMore p r xs n ++ [refNext p r (refMore p r xs n)]

theorem length_refMore (p : Nat) (r xs : List Nat) : ∀ n, (refMore p r xs n).length = xs.length + n
  | 0 => rfl
  | n + 1 => by simp [refMore, length_refMore p r xs n]; omega

def refHolds (p : Nat) (r row : List Nat) : Bool := decide (∀ i, i < row.length → r.length ≤ i → refNext p r (row.take i) = row.getD i 0 % p)

/-! ### they are the same -/

theorem nextF_lt {p : Nat} (hp : 0 < p) (r row : List Nat) : ∀ i, nextF p r row i < p
  | 0 => hp
  | _ + 1 => Nat.mod_lt _ hp

theorem miss_next {p : Nat} (hp : 0 < p) (r row ys : List Nat) (i0 : Nat) (hl : ys.length = i0) (hy : ∀ j, j < i0 → ys.getD j 0 = row.getD j 0) : ∀ i, i ≤ i0 → missF p r row i0 i = (row.getD i0 0 + nextF p r ys i) % p
  | 0, _ => rfl
  | i + 1, h => by
    have ih := miss_next hp r row ys i0 hl hy i (by omega)
    show (missF p r row i0 i + r.getD i 0 * row.getD (i0 - 1 - i) 0 % p) % p = (row.getD i0 0 + (nextF p r ys i + r.getD i 0 * ys.getD (ys.length - 1 - i) 0 % p) % p) % p
    rw [ih, hl, hy (i0 - 1 - i) (by omega), Nat.mod_add_mod]
    conv => rhs; rw [Nat.add_mod_mod]
    rw [Nat.add_assoc]

theorem sb_zero {p S x : Nat} (hp : 0 < p) (hS : S < p) : sb 0 S p = x % p ↔ (x + S) % p = 0 := by
  unfold sb
  rw [Nat.zero_mod, Nat.zero_add, Nat.mod_eq_of_lt hS]
  have hx := Nat.mod_lt x hp
  rw [Nat.add_mod, Nat.mod_eq_of_lt hS]
  generalize x % p = y at *
  by_cases h0 : S = 0
  · subst h0
    rw [Nat.sub_zero, Nat.mod_self, Nat.add_zero, Nat.mod_eq_of_lt hx]
    exact eq_comm
  · rw [Nat.mod_eq_of_lt (by omega : p - S < p)]
    constructor
    · rintro rfl
      rw [Nat.sub_add_cancel (by omega), Nat.mod_self]
    · intro h
      have h2 : y + S = p := by
        rcases Nat.lt_or_ge (y + S) p with h3 | h3
        · rw [Nat.mod_eq_of_lt h3] at h; omega
        · rw [Nat.mod_eq_sub_mod h3, Nat.mod_eq_of_lt (by omega)] at h; omega
      omega

theorem holds_ref {p : Nat} (hp : 0 < p) (r row : List Nat) : holdsB p r row = refHolds p r row := by
  unfold holdsB refHolds
  refine decide_eq_decide.mpr ?_
  refine forall_congr' fun i => imp_congr_right fun hi => imp_congr_right fun hr => ?_
  have h := miss_next hp r row (row.take i) i (by simp; omega) (fun j hj => by simp [List.getD_eq_getElem?_getD, List.getElem?_take_of_lt hj]) r.length hr
  show missF p r row i r.length = 0 ↔ refNext p r (row.take i) = _
  rw [h]
  exact (sb_zero hp (nextF_lt hp _ _ _)).symm

theorem more_ref {p : Nat} (hp : 0 < p) (r xs : List Nat) (hl : r.length ≤ xs.length) : ∀ n, moreN p r xs n = refMore p r xs n
  | 0 => rfl
  | n + 1 => by
    have ih := more_ref hp r xs hl n
    have hlen := length_refMore p r xs n
    unfold moreN refMore
    rw [ih]
    generalize refMore p r xs n = ys at *
    have h := miss_next hp r (ys ++ [0]) ys ys.length rfl (fun j hj => by simp [List.getD_eq_getElem?_getD, List.getElem?_append, hj]) r.length (by omega)
    have h0 : (ys ++ [0]).getD ys.length 0 = 0 := by simp [List.getD_eq_getElem?_getD]
    show ys ++ [sb 0 (missF p r (ys ++ [0]) ys.length r.length) p] = ys ++ [refNext p r ys]
    rw [h, h0, Nat.zero_add, Nat.mod_eq_of_lt (nextF_lt hp _ _ _)]
    rfl

/-! ### polynomials -/

/-- Numbers modulo p, laid one by one into a row of zeros. -/
def mapK (p : Nat) (a : List Nat) : Nat → List Nat
  | 0 => List.replicate a.length 0
  | i + 1 => (mapK p a i).set i (a.getD i 0 % p)

theorem length_mapK (p : Nat) (a : List Nat) : ∀ i, (mapK p a i).length = a.length
  | 0 => by simp [mapK]
  | i + 1 => by simp [mapK, length_mapK p a i]

theorem mapK_at (p : Nat) (a : List Nat) : ∀ i, i ≤ a.length → ∀ j, (mapK p a i).getD j 0 = if j < i then a.getD j 0 % p else 0
  | 0, _, j => by unfold mapK; rw [getD_rep]; simp
  | i + 1, hi, j => by
    unfold mapK
    rw [getD_set _ _ _ _ (by rw [length_mapK]; omega), mapK_at p a i (by omega) j]
    by_cases h : j = i
    · rw [if_pos h, h, if_pos (by omega)]
    · rw [if_neg h]
      by_cases h2 : j < i
      · rw [if_pos h2, if_pos (by omega)]
      · rw [if_neg h2, if_neg (by omega)]

theorem mapK_all (p : Nat) (a : List Nat) : mapK p a a.length = a.map (· % p) := by
  refine list_eq (by rw [length_mapK, List.length_map]) fun j hj => ?_
  rw [length_mapK] at hj
  rw [mapK_at p a _ (Nat.le_refl _), if_pos hj]
  simp [List.getD_eq_getElem?_getD, hj]

def trimL (a : List Nat) : Nat → Nat
  | 0 => 0
  | n + 1 => if a.getD n 0 = 0 then trimL a n else n + 1

theorem trimL_le (a : List Nat) : ∀ n, trimL a n ≤ n
  | 0 => Nat.le_refl 0
  | n + 1 => by unfold trimL; split; (have := trimL_le a n; omega); omega

def trimN (a : List Nat) : List Nat := a.take (trimL a a.length)

def normN (p : Nat) (a : List Nat) : List Nat := trimN (a.map (· % p))

def oneI (p x : Nat) (b : List Nat) (i : Nat) (out : List Nat) : Nat → List Nat
  | 0 => out
  | k + 1 => (oneI p x b i out k).set (i + k) (((oneI p x b i out k).getD (i + k) 0 + x * b.getD k 0 % p) % p)

def oneO (p : Nat) (a b : List Nat) : Nat → List Nat
  | 0 => List.replicate (a.length + b.length - 1) 0
  | i + 1 => oneI p (a.getD i 0) b i (oneO p a b i) b.length

theorem length_oneI (p x : Nat) (b : List Nat) (i : Nat) (out : List Nat) : ∀ k, (oneI p x b i out k).length = out.length
  | 0 => rfl
  | k + 1 => by simp [oneI, length_oneI p x b i out k]

theorem length_oneO (p : Nat) (a b : List Nat) : ∀ k, (oneO p a b k).length = a.length + b.length - 1
  | 0 => by simp [oneO]
  | k + 1 => by simp [oneO, length_oneI, length_oneO p a b k]

def oneN (p : Nat) (a b : List Nat) : List Nat := if a.length = 0 ∨ b.length = 0 then [] else oneO p a b a.length

def timesN (p : Nat) (a b : List Nat) : List Nat := trimN (oneN p a b)

def divI (p qi : Nat) (b : List Nat) (i : Nat) (left : List Nat) : Nat → List Nat
  | 0 => left
  | k + 1 => (divI p qi b i left k).set (i + k) (sb ((divI p qi b i left k).getD (i + k) 0) (qi * b.getD k 0 % p) p)

theorem length_divI (p qi : Nat) (b : List Nat) (i : Nat) (left : List Nat) : ∀ k, (divI p qi b i left k).length = left.length
  | 0 => rfl
  | k + 1 => by simp [divI, length_divI p qi b i left k]

def divO (p inv : Nat) (b : List Nat) : Nat → List Nat × List Nat → List Nat × List Nat
  | 0, s => s
  | n + 1, (q, left) => divO p inv b n (q.set n (left.getD (n + (b.length - 1)) 0 * inv % p), divI p (left.getD (n + (b.length - 1)) 0 * inv % p) b n left b.length)

theorem length_divO (p inv : Nat) (b : List Nat) : ∀ (n : Nat) (s : List Nat × List Nat), (divO p inv b n s).1.length = s.1.length ∧ (divO p inv b n s).2.length = s.2.length
  | 0, _ => ⟨rfl, rfl⟩
  | n + 1, (q, left) => by
    obtain ⟨h1, h2⟩ := length_divO p inv b n (q.set n (left.getD (n + (b.length - 1)) 0 * inv % p), divI p (left.getD (n + (b.length - 1)) 0 * inv % p) b n left b.length)
    exact ⟨h1.trans List.length_set, h2.trans (length_divI _ _ _ _ _ _)⟩

def divN (iv : Nat → Nat) (p : Nat) (a b : List Nat) : List Nat × List Nat :=
  if a.length < b.length then ([], a)
  else
    let s := divO p (iv (b.getD (b.length - 1) 0)) b (a.length - (b.length - 1)) (List.replicate (a.length - (b.length - 1)) 0, a)
    (trimN s.1, trimN s.2)

def remN (iv : Nat → Nat) (p : Nat) (a b : List Nat) : List Nat := (divN iv p a b).2

def powF (iv : Nat → Nat) (p : Nat) (b : List Nat) : Nat → Nat → List Nat → List Nat → List Nat
  | 0, _, out, _ => out
  | f + 1, n, out, a => if n = 0 then out else powF iv p b f (n / 2) (if n % 2 = 1 then remN iv p (timesN p out a) b else out) (remN iv p (timesN p a a) b)

/-- The factors stay short. -/
def powOk (iv : Nat → Nat) (p : Nat) (b : List Nat) : Nat → Nat → List Nat → List Nat → Prop
  | 0, n, _, _ => n = 0
  | f + 1, n, out, a => n = 0 ∨ (out.length ≤ 16 ∧ a.length ≤ 16 ∧ powOk iv p b f (n / 2) (if n % 2 = 1 then remN iv p (timesN p out a) b else out) (remN iv p (timesN p a a) b))

def powOkB (iv : Nat → Nat) (p : Nat) (b : List Nat) : Nat → Nat → List Nat → List Nat → Bool
  | 0, n, _, _ => Nat.beq n 0
  | f + 1, n, out, a => Nat.beq n 0 || (Nat.ble out.length 16 && Nat.ble a.length 16 && powOkB iv p b f (n / 2) (if n % 2 = 1 then remN iv p (timesN p out a) b else out) (remN iv p (timesN p a a) b))

theorem powOk_of (iv : Nat → Nat) (p : Nat) (b : List Nat) : ∀ (f n : Nat) (out a : List Nat), powOkB iv p b f n out a = true → powOk iv p b f n out a
  | 0, _, _, _, h => Nat.eq_of_beq_eq_true h
  | f + 1, n, out, a, h => by
    unfold powOkB at h
    rw [Bool.or_eq_true, Bool.and_eq_true, Bool.and_eq_true] at h
    rcases h with h | ⟨⟨h1, h2⟩, h3⟩
    · exact .inl (Nat.eq_of_beq_eq_true h)
    · exact .inr ⟨Nat.le_of_ble_eq_true h1, Nat.le_of_ble_eq_true h2, powOk_of iv p b f _ _ _ h3⟩

def farF (p : Nat) (x row : List Nat) : Nat → Nat
  | 0 => 0
  | i + 1 => (farF p x row i + x.getD i 0 * row.getD i 0 % p) % p

def farX (iv : Nat → Nat) (p : Nat) (r : List Nat) (n : Nat) : List Nat :=
  powF iv p (normN p (charN p r)) 64 n (remN iv p [1] (normN p (charN p r))) (remN iv p (normN p [0, 1]) (normN p (charN p r)))

def farOk (iv : Nat → Nat) (p : Nat) (r : List Nat) (n : Nat) : Prop :=
  powOk iv p (normN p (charN p r)) 64 n (remN iv p [1] (normN p (charN p r))) (remN iv p (normN p [0, 1]) (normN p (charN p r)))

/-! ### the chapter's example -/

def iv7 (x : Nat) : Nat := x ^ 5 % 7

theorem find7 : (findN iv7 7 [1, 1, 2, 3, 5, 1] 6).now = [6, 6] := by decide
theorem more7 : moreN 7 [6, 6] [1, 1] 3 = [1, 1, 2, 3, 5] := by decide
theorem far7 : farF 7 (farX iv7 7 [6, 6] 1000000) [1, 1] (farX iv7 7 [6, 6] 1000000).length = 1 := by decide +kernel

theorem farOk7 : farOk iv7 7 [6, 6] 1000000 := powOk_of _ _ _ _ _ _ _ (by decide +kernel)

theorem farL7 : (farX iv7 7 [6, 6] 1000000).length ≤ 2 := by decide +kernel

theorem charN7 : normN 7 (charN 7 [6, 6]) = [6, 6, 1] := by decide

end Vinc.Num
