/- The rule that is found holds: what the search does, one step at a time. -/
import Derived.Test.YtmpfgaebmdbdeaaGreatDoorVincRec
set_option linter.unusedSimpArgs false
set_option linter.unusedVariables false
namespace Vinc.Num

/-- The same modulo p. -/
def cg (p : Nat) (a b : Int) : Prop := (p : Int) ∣ a - b

theorem cg.refl {p : Nat} (a : Int) : cg p a a := ⟨0, by omega⟩
theorem cg.of_eq {p : Nat} {a b : Int} (h : a = b) : cg p a b := h ▸ cg.refl a
theorem cg.symm {p : Nat} {a b : Int} (h : cg p a b) : cg p b a := by
  obtain ⟨k, hk⟩ := h
  exact ⟨-k, by rw [Int.mul_neg, ← hk]; omega⟩
theorem cg.trans {p : Nat} {a b c : Int} (h : cg p a b) (h' : cg p b c) : cg p a c := by
  obtain ⟨k, hk⟩ := h
  obtain ⟨l, hl⟩ := h'
  exact ⟨k + l, by rw [Int.mul_add, ← hk, ← hl]; omega⟩
theorem cg.add {p : Nat} {a b c d : Int} (h : cg p a b) (h' : cg p c d) : cg p (a + c) (b + d) := by
  obtain ⟨k, hk⟩ := h
  obtain ⟨l, hl⟩ := h'
  exact ⟨k + l, by rw [Int.mul_add, ← hk, ← hl]; omega⟩
theorem cg.neg {p : Nat} {a b : Int} (h : cg p a b) : cg p (-a) (-b) := by
  obtain ⟨k, hk⟩ := h
  exact ⟨-k, by rw [Int.mul_neg, ← hk]; omega⟩
theorem cg.sub {p : Nat} {a b c d : Int} (h : cg p a b) (h' : cg p c d) : cg p (a - c) (b - d) := by
  rw [Int.sub_eq_add_neg, Int.sub_eq_add_neg]
  exact h.add h'.neg
theorem cg.mul {p : Nat} {a b c d : Int} (h : cg p a b) (h' : cg p c d) : cg p (a * c) (b * d) := by
  obtain ⟨k, hk⟩ := h
  obtain ⟨l, hl⟩ := h'
  refine ⟨k * c + b * l, ?_⟩
  have e1 : a * c - b * d = (a - b) * c + b * (c - d) := by rw [Int.sub_mul, Int.mul_sub]; omega
  rw [e1, hk, hl, Int.mul_add, Int.mul_assoc, ← Int.mul_assoc b, Int.mul_comm b, Int.mul_assoc]
theorem cg.mod {p : Nat} (a : Nat) : cg p ((a % p : Nat) : Int) (a : Int) := by
  refine ⟨-((a / p : Nat) : Int), ?_⟩
  have := Nat.div_add_mod a p
  have h2 : ((p * (a / p) + a % p : Nat) : Int) = (a : Int) := congrArg _ this
  rw [Int.natCast_add, Int.natCast_mul] at h2
  rw [Int.mul_neg]
  omega
theorem cg.self {p : Nat} (a : Int) : cg p (p * a) 0 := ⟨a, by omega⟩

theorem cg.sb {p : Nat} (hp : 0 < p) (x y : Nat) : cg p (sb x y p : Nat) ((x : Int) - y) := by
  unfold Vinc.Num.sb
  have hy := Nat.mod_lt y hp
  refine (cg.mod _).trans ?_
  have e : ((x % p + p - y % p : Nat) : Int) = ((x % p : Nat) : Int) + p * 1 - ((y % p : Nat) : Int) := by omega
  rw [e]
  have h := ((cg.mod (p := p) x).add (cg.self (p := p) 1)).sub (cg.mod (p := p) y)
  rw [Int.add_zero] at h
  exact h

theorem cg.zero_iff {p : Nat} (hp : 0 < p) {a : Nat} (h : a < p) : cg p (a : Int) 0 ↔ a = 0 := by
  constructor
  · rintro ⟨k, hk⟩
    have h1 : (a : Int) = p * k := by omega
    have h2 : p ∣ a := Int.natCast_dvd_natCast.mp ⟨k, h1⟩
    exact Nat.eq_zero_of_dvd_of_lt h2 h
  · rintro rfl; exact cg.refl _

theorem cg.eq_of_lt {p : Nat} {a b : Nat} (h : cg p (a : Int) (b : Int)) (ha : a < p) (hb : b < p) : a = b := by
  obtain ⟨k, hk⟩ := h
  rcases Int.lt_trichotomy k 0 with hk0 | hk0 | hk0
  · have : (p : Int) * k ≤ p * (-1) := Int.mul_le_mul_of_nonneg_left (by omega) (by omega)
    omega
  · subst hk0; omega
  · have : (p : Int) * 1 ≤ p * k := Int.mul_le_mul_of_nonneg_left (by omega) (by omega)
    omega

/-- Sums. -/
def S (f : Nat → Int) : Nat → Int
  | 0 => 0
  | n + 1 => S f n + f n

theorem S_congr {f g : Nat → Int} : ∀ {n : Nat}, (∀ i, i < n → f i = g i) → S f n = S g n
  | 0, _ => rfl
  | n + 1, h => by
    show S f n + f n = S g n + g n
    rw [S_congr fun i hi => h i (by omega), h n (by omega)]

theorem S_cg {p : Nat} {f g : Nat → Int} : ∀ {n : Nat}, (∀ i, i < n → cg p (f i) (g i)) → cg p (S f n) (S g n)
  | 0, _ => cg.refl _
  | n + 1, h => (S_cg fun i hi => h i (by omega)).add (h n (by omega))

theorem S_add (f g : Nat → Int) : ∀ n, S (fun i => f i + g i) n = S f n + S g n
  | 0 => rfl
  | n + 1 => by
    show S (fun i => f i + g i) n + (f n + g n) = S f n + f n + (S g n + g n)
    rw [S_add f g n]; omega

theorem S_mul (c : Int) (f : Nat → Int) : ∀ n, S (fun i => c * f i) n = c * S f n
  | 0 => (Int.mul_zero c).symm
  | n + 1 => by
    show S (fun i => c * f i) n + c * f n = c * (S f n + f n)
    rw [S_mul c f n, Int.mul_add]

theorem S_zero {f : Nat → Int} : ∀ {n : Nat}, (∀ i, i < n → f i = 0) → S f n = 0
  | 0, _ => rfl
  | n + 1, h => by
    show S f n + f n = 0
    rw [S_zero fun i hi => h i (by omega), h n (by omega)]; rfl

theorem S_split (f : Nat → Int) (m : Nat) : ∀ n, S f (m + n) = S f m + S (fun i => f (m + i)) n
  | 0 => (Int.add_zero _).symm
  | n + 1 => by
    show S f (m + n) + f (m + n) = S f m + (S (fun i => f (m + i)) n + f (m + n))
    rw [S_split f m n]; omega

theorem S_rev (f : Nat → Int) : ∀ n, S (fun i => f (n - 1 - i)) n = S f n
  | 0 => rfl
  | n + 1 => by
    have h := S_split (fun i => f (n + 1 - 1 - i)) 1 n
    rw [Nat.add_comm 1 n] at h
    rw [h]
    have e1 : S (fun i => f (n + 1 - 1 - i)) 1 = f n := by show (0 : Int) + f (n + 1 - 1 - 0) = f n; rw [Int.zero_add]; rfl
    have e2 : S (fun i => f (n + 1 - 1 - (1 + i))) n = S (fun i => f (n - 1 - i)) n := S_congr fun i hi => by rw [show n + 1 - 1 - (1 + i) = n - 1 - i by omega]
    rw [e1, e2, S_rev f n]
    show f n + S f n = S f n + f n
    omega

theorem S_swap (f : Nat → Nat → Int) (m : Nat) : ∀ n, S (fun i => S (fun j => f i j) m) n = S (fun j => S (fun i => f i j) n) m
  | 0 => (S_zero fun _ _ => rfl).symm
  | n + 1 => by
    show S (fun i => S (fun j => f i j) m) n + S (fun j => f n j) m = S (fun j => S (fun i => f i j) n + f n j) m
    rw [S_swap f m n, S_add]

/-- More terms, all of them 0. -/
theorem S_more {f : Nat → Int} {m n : Nat} (h : m ≤ n) (h0 : ∀ i, m ≤ i → i < n → f i = 0) : S f n = S f m := by
  obtain ⟨k, rfl⟩ : ∃ k, n = m + k := ⟨n - m, by omega⟩
  rw [S_split, S_zero (f := fun i => f (m + i)) fun i hi => h0 _ (by omega) (by omega), Int.add_zero]

/-- A sum in which one term is another one. -/
theorem S_upd {f g : Nat → Int} {k : Nat} : ∀ {n : Nat}, k < n → (∀ i, i < n → i ≠ k → f i = g i) → S f n = S g n + (f k - g k)
  | 0, h, _ => by omega
  | n + 1, hk, h => by
    show S f n + f n = S g n + g n + (f k - g k)
    by_cases e : k = n
    · subst e
      rw [S_congr (f := f) (g := g) fun i hi => h i (by omega) (by omega)]
      omega
    · rw [S_upd (f := f) (g := g) (by omega) fun i hi hne => h i (by omega) hne, h n (by omega) (fun e' => e e'.symm)]
      omega

/-! ### what a rule misses -/

/-- The number at a place and what a rule takes of those ahead. -/
def ms (r row : List Nat) (i : Nat) : Int := (row.getD i 0 : Nat) + S (fun j => (r.getD j 0 : Nat) * (row.getD (i - 1 - j) 0 : Nat)) r.length

theorem missF_cg {p : Nat} (r row : List Nat) (i : Nat) : ∀ n, cg p (missF p r row i n : Nat) ((row.getD i 0 : Nat) + S (fun j => (r.getD j 0 : Nat) * (row.getD (i - 1 - j) 0 : Nat)) n)
  | 0 => by
    show cg p ((row.getD i 0 % p : Nat) : Int) ((row.getD i 0 : Nat) + 0)
    rw [Int.add_zero]
    exact cg.mod _
  | n + 1 => by
    have ih := missF_cg (p := p) r row i n
    show cg p (((missF p r row i n + r.getD n 0 * row.getD (i - 1 - n) 0 % p) % p : Nat) : Int) _
    refine (cg.mod _).trans ?_
    rw [Int.natCast_add]
    have h := ih.add (cg.mod (p := p) (r.getD n 0 * row.getD (i - 1 - n) 0))
    refine h.trans (cg.of_eq ?_)
    show _ = (row.getD i 0 : Int) + (S _ n + (r.getD n 0 : Nat) * (row.getD (i - 1 - n) 0 : Nat))
    rw [Int.natCast_mul]
    omega

theorem missN_cg {p : Nat} (r row : List Nat) (i : Nat) : cg p (missN p r row i : Nat) (ms r row i) := missF_cg r row i r.length

theorem missN_lt {p : Nat} (hp : 0 < p) (r row : List Nat) (i : Nat) : missN p r row i < p := by
  unfold missN
  cases r.length with
  | zero => exact Nat.mod_lt _ hp
  | succ n => exact Nat.mod_lt _ hp

theorem missN_zero {p : Nat} (hp : 0 < p) (r row : List Nat) (i : Nat) : missN p r row i = 0 ↔ cg p (ms r row i) 0 := by
  rw [← cg.zero_iff hp (missN_lt hp r row i)]
  exact ⟨fun h => (missN_cg r row i).symm.trans h, fun h => (missN_cg r row i).trans h⟩

/-- A rule's terms as a sum over more places. -/
theorem ms_more (r row : List Nat) (i n : Nat) (hn : r.length ≤ n) : ms r row i = (row.getD i 0 : Nat) + S (fun j => (r.getD j 0 : Nat) * (row.getD (i - 1 - j) 0 : Nat)) n := by
  unfold ms
  rw [S_more hn]
  intro j hj _
  rw [List.getD_eq_getElem?_getD, List.getElem?_eq_none hj]
  simp

theorem getD_headN {p t gap : Nat} {xs : List Nat} (h : gap - 1 < xs.length) (j : Nat) : (headN p t gap xs).getD j 0 = if j = gap - 1 then sb (xs.getD (gap - 1) 0) t p else xs.getD j 0 := by
  unfold headN
  rw [getD_set _ _ _ _ h]

/-- What taking terms off does to a rule's sum. -/
theorem updN_ms {p t : Nat} (hp : 0 < p) (old : List Nat) (gap : Nat) (xs row : List Nat) (i : Nat) (hx : gap + old.length ≤ xs.length) : ∀ n, n ≤ old.length →
    cg p (ms (updN p t old gap xs n) row i) (ms xs row i - t * S (fun j => (old.getD j 0 : Nat) * (row.getD (i - 1 - (gap + j)) 0 : Nat)) n)
  | 0, _ => by
    show cg p (ms xs row i) (ms xs row i - t * 0)
    rw [Int.mul_zero, Int.sub_zero]
    exact cg.refl _
  | n + 1, hn => by
    have ih := updN_ms (t := t) hp old gap xs row i hx n (by omega)
    have hl : (updN p t old gap xs n).length = xs.length := length_updN _ _ _ _ _ _
    unfold updN
    generalize updN p t old gap xs n = ys at ih hl ⊢
    have hk : gap + n < ys.length := by omega
    have h1 : ms (ys.set (gap + n) (sb (ys.getD (gap + n) 0) (t * old.getD n 0 % p) p)) row i = ms ys row i + ((sb (ys.getD (gap + n) 0) (t * old.getD n 0 % p) p : Nat) - (ys.getD (gap + n) 0 : Nat)) * (row.getD (i - 1 - (gap + n)) 0 : Nat) := by
      unfold ms
      rw [List.length_set, S_upd (k := gap + n) (g := fun j => (ys.getD j 0 : Int) * (row.getD (i - 1 - j) 0 : Nat)) hk]
      · rw [getD_set _ _ _ _ hk, if_pos rfl, Int.sub_mul]; omega
      · intro j _ hj
        rw [getD_set _ _ _ _ hk, if_neg hj]
    rw [h1]
    have h2 := cg.sb hp (ys.getD (gap + n) 0) (t * old.getD n 0 % p)
    have h3 := cg.mod (p := p) (t * old.getD n 0)
    generalize ys.getD (gap + n) 0 = y at h2 ⊢
    have h4 : cg p ((sb y (t * old.getD n 0 % p) p : Nat) - (y : Int)) (-(t * (old.getD n 0 : Nat))) := by
      refine (h2.sub (cg.refl (y : Int))).trans ?_
      have e : (y : Int) - ((t * old.getD n 0 % p : Nat) : Int) - (y : Int) = -((t * old.getD n 0 % p : Nat) : Int) := by omega
      rw [e]
      have h5 := h3.neg
      rw [Int.natCast_mul] at h5
      exact h5
    refine (ih.add (h4.mul (cg.refl ((row.getD (i - 1 - (gap + n)) 0 : Nat) : Int)))).trans (cg.of_eq ?_)
    show _ = _ - t * (S _ n + (old.getD n 0 : Nat) * (row.getD (i - 1 - (gap + n)) 0 : Nat))
    rw [Int.mul_add, Int.neg_mul, Int.mul_assoc]
    omega

theorem ms_grownN (r : List Nat) (n : Nat) (row : List Nat) (i : Nat) : ms (grownN r n) row i = ms r row i := by
  have h : ms r row i = _ := ms_more r row i (grownN r n).length (by rw [length_grownN]; omega)
  rw [h]
  unfold ms
  congr 1
  refine S_congr fun j _ => ?_
  rw [getD_grownN]
  split
  · rfl
  · rename_i hj
    have e : r.getD j 0 = 0 := by rw [List.getD_eq_getElem?_getD, List.getElem?_eq_none (by omega : r.length ≤ j)]; rfl
    rw [e]

theorem headN_ms {p t gap : Nat} (hp : 0 < p) (xs row : List Nat) (i : Nat) (hx : gap - 1 < xs.length) : cg p (ms (headN p t gap xs) row i) (ms xs row i - t * (row.getD (i - 1 - (gap - 1)) 0 : Nat)) := by
  have h1 : ms (headN p t gap xs) row i = ms xs row i + ((sb (xs.getD (gap - 1) 0) t p : Nat) - (xs.getD (gap - 1) 0 : Nat)) * (row.getD (i - 1 - (gap - 1)) 0 : Nat) := by
    unfold ms headN
    rw [List.length_set, S_upd (k := gap - 1) (g := fun j => (xs.getD j 0 : Int) * (row.getD (i - 1 - j) 0 : Nat)) hx]
    · rw [getD_set _ _ _ _ hx, if_pos rfl, Int.sub_mul]; omega
    · intro j _ hj
      rw [getD_set _ _ _ _ hx, if_neg hj]
  rw [h1]
  have h2 := cg.sb hp (xs.getD (gap - 1) 0) t
  have h4 : cg p ((sb (xs.getD (gap - 1) 0) t p : Nat) - ((xs.getD (gap - 1) 0 : Nat) : Int)) (-t) := by
    refine (h2.sub (cg.refl ((xs.getD (gap - 1) 0 : Nat) : Int))).trans (cg.of_eq ?_)
    omega
  refine ((cg.refl (ms xs row i)).add (h4.mul (cg.refl ((row.getD (i - 1 - (gap - 1)) 0 : Nat) : Int)))).trans (cg.of_eq ?_)
  rw [Int.neg_mul]; omega

/-- What the new rule misses: what the old one misses, less so many times what the one ahead of its last growth missed so many places ago. -/
theorem nextN_ms {p : Nat} (hp : 0 < p) (iv : Nat → Nat) (d : Nat) (s : FS) (hg : 1 ≤ s.gap) (row : List Nat) (i : Nat) (hi : s.gap + s.old.length ≤ i) :
    cg p (ms (nextN iv p d s) row i) (ms s.now row i - (d * iv s.was % p : Nat) * ms s.old row (i - s.gap)) := by
  unfold nextN
  have hgl : s.gap + s.old.length ≤ (grownN s.now (s.gap + s.old.length)).length := by rw [length_grownN]; omega
  have h1 := updN_ms (t := d * iv s.was % p) hp s.old s.gap (headN p (d * iv s.was % p) s.gap (grownN s.now (s.gap + s.old.length))) row i (by rw [length_headN]; exact hgl) s.old.length (Nat.le_refl _)
  have h2 := headN_ms (t := d * iv s.was % p) (gap := s.gap) hp (grownN s.now (s.gap + s.old.length)) row i (by omega)
  rw [ms_grownN] at h2
  refine h1.trans ((h2.sub (cg.refl _)).trans (cg.of_eq ?_))
  unfold ms
  rw [show i - 1 - (s.gap - 1) = i - s.gap by omega]
  have e : S (fun j => (s.old.getD j 0 : Nat) * (row.getD (i - 1 - (s.gap + j)) 0 : Nat)) s.old.length = S (fun j => ((s.old.getD j 0 : Nat) : Int) * (row.getD (i - s.gap - 1 - j) 0 : Nat)) s.old.length :=
    S_congr fun j _ => by rw [show i - 1 - (s.gap + j) = i - s.gap - 1 - j by omega]
  rw [e, Int.mul_add]
  omega

/-- What holds at each step. -/
structure Bm (p : Nat) (row : List Nat) (s : FS) (n : Nat) : Prop where
  ok : FOk s n
  now : ∀ i, i < n → s.now.length ≤ i → missN p s.now row i = 0
  was : s.was % p ≠ 0
  old : s.gap ≤ n → (∀ i, i < n - s.gap → s.old.length ≤ i → missN p s.old row i = 0) ∧ missN p s.old row (n - s.gap) = s.was

theorem Bm.step {p : Nat} (hp : 0 < p) (iv : Nat → Nat) (hiv : ∀ x, x % p ≠ 0 → x * iv x % p = 1 % p) {row : List Nat} {s : FS} {n : Nat} (h : Bm p row s n) : Bm p row (stepN iv p row s n) (n + 1) := by
  have hok := stepN_ok iv p row s n h.ok
  obtain ⟨o1, o2⟩ := h.ok
  unfold stepN at hok ⊢
  split
  · rename_i h0
    rw [if_pos h0] at hok
    refine ⟨hok, fun i hi hl => ?_, h.was, fun hg => ?_⟩
    · rcases Nat.lt_or_ge i n with h1 | h1
      · exact h.now i h1 hl
      · rw [show i = n by omega]; exact h0
    · dsimp only at hg ⊢
      have e : n + 1 - (s.gap + 1) = n - s.gap := by omega
      rw [e]
      exact h.old (by omega)
  · rename_i h0
    rw [if_neg h0] at hok
    have hd := missN_lt hp s.now row n
    obtain ⟨d, ed⟩ : ∃ d, missN p s.now row n = d := ⟨_, rfl⟩
    rw [ed] at h0 hok hd ⊢
    -- the new rule holds up to here
    have key : ∀ i, i < n + 1 → max (s.gap + s.old.length) s.now.length ≤ i → missN p (nextN iv p d s) row i = 0 := by
      intro i hi hl
      rw [missN_zero hp]
      have h1 := nextN_ms hp iv d s o2 row i (by omega)
      obtain ⟨ho1, ho2⟩ := h.old (by omega)
      refine h1.trans ?_
      rcases Nat.lt_or_ge i n with hin | hin
      · have a1 := (missN_zero hp _ _ _).mp (h.now i hin (by omega))
        have a2 := (missN_zero hp _ _ _).mp (ho1 (i - s.gap) (by omega) (by omega))
        have := a1.sub ((cg.refl ((d * iv s.was % p : Nat) : Int)).mul a2)
        rw [Int.mul_zero] at this
        exact this
      · obtain rfl : i = n := by omega
        have a1 := (missN_cg (p := p) s.now row i).symm
        rw [ed] at a1
        have a2 := (missN_cg (p := p) s.old row (i - s.gap)).symm
        rw [ho2] at a2
        have a3 : cg p ((d * iv s.was % p : Nat) * (s.was : Nat)) (d : Int) := by
          refine ((cg.mod _).mul (cg.refl _)).trans ?_
          have e1 : (((d * iv s.was : Nat) : Int) * (s.was : Nat)) = ((d * (s.was * iv s.was) : Nat) : Int) := by rw [← Int.natCast_mul, Nat.mul_assoc, Nat.mul_comm (iv s.was)]
          rw [e1, Int.natCast_mul]
          have a4 : cg p ((s.was * iv s.was : Nat) : Int) 1 := by
            refine (cg.mod _).symm.trans ?_
            rw [hiv _ h.was]
            exact cg.mod 1
          have a5 := (cg.refl (d : Int)).mul a4
          rwa [Int.mul_one] at a5
        have := a1.sub (((cg.refl ((d * iv s.was % p : Nat) : Int)).mul a2).trans a3)
        refine this.trans (cg.of_eq (by omega))
    have hln : (nextN iv p d s).length = max (s.gap + s.old.length) s.now.length := length_nextN iv p d s
    split
    · rename_i h1
      rw [if_pos h1] at hok
      refine ⟨hok, fun i hi hl => key i hi (by dsimp only at hl; omega), h.was, fun hg => ?_⟩
      dsimp only at hg ⊢
      have e : n + 1 - (s.gap + 1) = n - s.gap := by omega
      rw [e]
      exact h.old (by omega)
    · rename_i h1
      rw [if_neg h1] at hok
      refine ⟨hok, fun i hi hl => ?_, ?_, fun _ => ⟨fun i hi hl => h.now i (by dsimp only at hi; omega) hl, ed⟩⟩
      · dsimp only at hl ⊢
        rw [missN_zero hp, ms_grownN, ← missN_zero hp]
        rw [length_grownN] at hl
        exact key i hi (by omega)
      · dsimp only
        rw [Nat.mod_eq_of_lt hd]
        exact h0

theorem Bm.all {p : Nat} (hp : 1 < p) (iv : Nat → Nat) (hiv : ∀ x, x % p ≠ 0 → x * iv x % p = 1 % p) (row : List Nat) : ∀ n, Bm p row (findN iv p row n) n
  | 0 => ⟨⟨rfl, Nat.le_refl 1⟩, fun i hi => by omega, by show 1 % p % p ≠ 0; rw [Nat.mod_mod, Nat.mod_eq_of_lt hp]; omega, fun h => by have h : 1 ≤ 0 := h; omega⟩
  | n + 1 => (Bm.all hp iv hiv row n).step (by omega) iv hiv

theorem find_holds {p : Nat} (hp : 1 < p) (iv : Nat → Nat) (hiv : ∀ x, x % p ≠ 0 → x * iv x % p = 1 % p) (row : List Nat) : holdsB p (findN iv p row row.length).now row = true :=
  decide_eq_true fun i hi hl => (Bm.all hp iv hiv row row.length).now i hi hl

theorem find_len (iv : Nat → Nat) (p : Nat) (row : List Nat) : (findN iv p row row.length).now.length ≤ row.length := by
  have := findN_ok iv p row row.length
  obtain ⟨h1, h2⟩ := this
  omega

/-- A row of 0 has the rule of no numbers, and no other row has it. -/
theorem find_none {p : Nat} (hp : 1 < p) (iv : Nat → Nat) (hiv : ∀ x, x % p ≠ 0 → x * iv x % p = 1 % p) (row : List Nat) : (findN iv p row row.length).now = [] ↔ ∀ i, i < row.length → row.getD i 0 % p = 0 := by
  constructor
  · intro h i hi
    have := (Bm.all hp iv hiv row row.length).now i hi (by rw [h]; exact Nat.zero_le _)
    rw [h] at this
    exact this
  · intro h
    have key : ∀ n, n ≤ row.length → findN iv p row n = ⟨[], [], 1 % p, n + 1⟩ := by
      intro n
      induction n with
      | zero => intro _; rfl
      | succ n ih =>
        intro hn
        show stepN iv p row (findN iv p row n) n = _
        rw [ih (by omega)]
        unfold stepN
        rw [if_pos]
        exact h n (by omega)
    rw [key _ (Nat.le_refl _)]

end Vinc.Num
