/- The rule by which a row was made, or a shorter one, is found of twice as many numbers. -/
import Derived.Test.YthgkmbeeicpmcaaDoorVincFr
set_option linter.unusedSimpArgs false
set_option linter.unusedVariables false
namespace Vinc.Num

/-- Two rules of a row: if one misses nothing up to a place, and the other one nothing before it, and both are short, the other one misses nothing there. -/
theorem massey {p : Nat} (C D row : List Nat) (n : Nat) (hl : C.length + D.length ≤ n) (hC : ∀ i, i < n → C.length ≤ i → cg p (ms C row i) 0) (hD : ∀ i, i < n + 1 → D.length ≤ i → cg p (ms D row i) 0) : cg p (ms C row n) 0 := by
  have hs : ∀ i, i < n + 1 → D.length ≤ i → cg p ((row.getD i 0 : Nat) : Int) (-S (fun k => ((D.getD k 0 : Nat) : Int) * (row.getD (i - 1 - k) 0 : Nat)) D.length) := fun i h1 h2 => by
    have h := (hD i h1 h2).sub (cg.refl (S (fun k => ((D.getD k 0 : Nat) : Int) * (row.getD (i - 1 - k) 0 : Nat)) D.length))
    refine (cg.of_eq ?_).trans (h.trans (cg.of_eq (by omega)))
    unfold ms
    omega
  have h1 : cg p (ms C row n) (-S (fun k => ((D.getD k 0 : Nat) : Int) * (row.getD (n - 1 - k) 0 : Nat)) D.length + S (fun j => ((C.getD j 0 : Nat) : Int) * -S (fun k => ((D.getD k 0 : Nat) : Int) * (row.getD (n - 1 - j - 1 - k) 0 : Nat)) D.length) C.length) := by
    unfold ms
    exact (hs n (by omega) (by omega)).add (S_cg fun j hj => (cg.refl _).mul (hs (n - 1 - j) (by omega) (by omega)))
  refine h1.trans ?_
  have e : -S (fun k => ((D.getD k 0 : Nat) : Int) * (row.getD (n - 1 - k) 0 : Nat)) D.length + S (fun j => ((C.getD j 0 : Nat) : Int) * -S (fun k => ((D.getD k 0 : Nat) : Int) * (row.getD (n - 1 - j - 1 - k) 0 : Nat)) D.length) C.length
      = S (fun k => -((D.getD k 0 : Nat) : Int) * ms C row (n - 1 - k)) D.length := by
    have e1 : S (fun j => ((C.getD j 0 : Nat) : Int) * -S (fun k => ((D.getD k 0 : Nat) : Int) * (row.getD (n - 1 - j - 1 - k) 0 : Nat)) D.length) C.length
        = S (fun k => -((D.getD k 0 : Nat) : Int) * S (fun j => ((C.getD j 0 : Nat) : Int) * (row.getD (n - 1 - k - 1 - j) 0 : Nat)) C.length) D.length := by
      have a1 : S (fun j => ((C.getD j 0 : Nat) : Int) * -S (fun k => ((D.getD k 0 : Nat) : Int) * (row.getD (n - 1 - j - 1 - k) 0 : Nat)) D.length) C.length
          = S (fun j => S (fun k => -((D.getD k 0 : Nat) : Int) * (((C.getD j 0 : Nat) : Int) * (row.getD (n - 1 - k - 1 - j) 0 : Nat))) D.length) C.length := S_congr fun j _ => by
        rw [Int.mul_neg, ← Int.neg_mul, ← S_mul]
        refine S_congr fun k _ => ?_
        rw [show n - 1 - j - 1 - k = n - 1 - k - 1 - j by omega, Int.neg_mul, Int.neg_mul, Int.mul_left_comm]
      rw [a1, S_swap]
      exact S_congr fun k _ => S_mul _ _ _
    have e2 : -S (fun k => ((D.getD k 0 : Nat) : Int) * (row.getD (n - 1 - k) 0 : Nat)) D.length = S (fun k => -((D.getD k 0 : Nat) : Int) * (row.getD (n - 1 - k) 0 : Nat)) D.length := by
      have := S_mul (-1) (fun k => ((D.getD k 0 : Nat) : Int) * (row.getD (n - 1 - k) 0 : Nat)) D.length
      rw [Int.neg_mul, Int.one_mul] at this
      rw [← this]
      refine S_congr fun k _ => ?_
      rw [Int.neg_mul, Int.one_mul, Int.neg_mul]
    rw [e1, e2, ← S_add]
    refine S_congr fun k _ => ?_
    unfold ms
    rw [Int.mul_add]
  rw [e]
  have h2 : cg p (S (fun k => -((D.getD k 0 : Nat) : Int) * ms C row (n - 1 - k)) D.length) (S (fun _ => 0) D.length) := S_cg fun k hk => by
    have := (cg.refl (-((D.getD k 0 : Nat) : Int))).mul (hC (n - 1 - k) (by omega) (by omega))
    rwa [Int.mul_zero] at this
  exact h2.trans (cg.of_eq (S_zero fun _ _ => rfl))

/-- No rule is shorter than the one that is found. -/
theorem find_least {p : Nat} (hp : 1 < p) (iv : Nat → Nat) (hiv : ∀ x, x % p ≠ 0 → x * iv x % p = 1 % p) (row D : List Nat) : ∀ n, (∀ i, i < n → D.length ≤ i → cg p (ms D row i) 0) → (findN iv p row n).now.length ≤ D.length
  | 0, _ => Nat.zero_le _
  | n + 1, hD => by
    have ih := find_least hp iv hiv row D n fun i hi hl => hD i (by omega) hl
    have hb := Bm.all hp iv hiv row n
    obtain ⟨o1, o2⟩ := hb.ok
    show (stepN iv p row (findN iv p row n) n).now.length ≤ _
    generalize findN iv p row n = s at *
    unfold stepN
    split
    · exact ih
    · rename_i h0
      have hln : (nextN iv p (missN p s.now row n) s).length = max (s.gap + s.old.length) s.now.length := length_nextN _ _ _ _
      split
      · show (nextN iv p (missN p s.now row n) s).length ≤ _
        omega
      · rename_i h1
        show (grownN (nextN iv p (missN p s.now row n) s) (n + 1 - s.now.length)).length ≤ _
        rw [length_grownN, hln]
        -- the old rule failed here: the other one is long
        rcases Nat.lt_or_ge n (s.now.length + D.length) with h2 | h2
        · omega
        · exfalso
          apply h0
          rw [missN_zero (by omega)]
          exact massey s.now D row n h2 (fun i hi hl => (missN_zero (by omega) _ _ _).mp (hb.now i hi hl)) hD

/-- The search looks at what is ahead alone. -/
theorem missN_take (p : Nat) (r row : List Nat) (m i : Nat) (hi : i < m) : missN p r (row.take m) i = missN p r row i := by
  have hg : ∀ j, j < m → (row.take m).getD j 0 = row.getD j 0 := fun j hj => by
    rw [List.getD_eq_getElem?_getD, List.getD_eq_getElem?_getD, List.getElem?_take_of_lt hj]
  unfold missN
  generalize r.length = n
  induction n with
  | zero => show _ % p = _ % p; rw [hg i hi]
  | succ n ih =>
    show (missF p r (row.take m) i n + r.getD n 0 * (row.take m).getD (i - 1 - n) 0 % p) % p = (missF p r row i n + r.getD n 0 * row.getD (i - 1 - n) 0 % p) % p
    rw [ih, hg _ (by omega)]

theorem findN_take (iv : Nat → Nat) (p : Nat) (row : List Nat) (m : Nat) : ∀ n, n ≤ m → findN iv p (row.take m) n = findN iv p row n
  | 0, _ => rfl
  | n + 1, h => by
    have ih := findN_take iv p row m n (by omega)
    show stepN iv p (row.take m) (findN iv p (row.take m) n) n = stepN iv p row (findN iv p row n) n
    rw [ih]
    unfold stepN
    rw [missN_take _ _ _ _ _ (by omega)]

/-- A row goes on by the rule by which it was made. -/
theorem made_holds {p : Nat} (hp : 0 < p) (r mr : List Nat) (hl : mr.length = r.length) (N : Nat) (i : Nat) (hi : i < r.length + N) (hri : r.length ≤ i) : missN p r (refMore p r mr N) i = 0 := by
  obtain ⟨k, rfl⟩ : ∃ k, i = r.length + k := ⟨i - r.length, by omega⟩
  have hyl := length_refMore p r mr k
  have hg : ∀ j, j < r.length + N → (refMore p r mr N).getD j 0 = sq p r mr j := fun j hj => refMore_sq p r mr N j (by omega)
  have h := miss_next hp r (refMore p r mr N) (refMore p r mr k) (r.length + k) (by omega) (fun j hj => by rw [hg j (by omega), refMore_sq p r mr k j (by omega)]) r.length hri
  show missF p r (refMore p r mr N) (r.length + k) r.length = 0
  rw [h, hg _ hi, ← hl, sq_next p r mr k]
  have hS := nextF_lt hp r (refMore p r mr k) r.length
  have := (sb_zero (x := refNext p r (refMore p r mr k)) hp hS).mp (by
    have h2 : refNext p r (refMore p r mr k) < p := Nat.mod_lt _ hp
    rw [Nat.mod_eq_of_lt h2]
    rfl)
  rw [hl]
  exact this

theorem back_all {p : Nat} (hp : 1 < p) (iv : Nat → Nat) (hiv : ∀ x, x % p ≠ 0 → x * iv x % p = 1 % p) (r mr : List Nat) (hl : mr.length = r.length) :
    let row := refMore p r mr (3 * r.length + 5)
    let s := (findN iv p (row.take (2 * r.length)) (row.take (2 * r.length)).length).now
    s.length ≤ r.length ∧ holdsB p s row = true ∧ (findN iv p row row.length).now = s := by
  intro row s
  have hp0 : 0 < p := by omega
  have hrl : row.length = 4 * r.length + 5 := by rw [length_refMore, hl]; omega
  have htl : (row.take (2 * r.length)).length = 2 * r.length := by rw [List.length_take]; omega
  have hr : ∀ i, i < row.length → r.length ≤ i → cg p (ms r row i) 0 := fun i hi hri => (missN_zero hp0 _ _ _).mp (made_holds hp0 r mr hl _ i (by omega) hri)
  have hs : s = (findN iv p row (2 * r.length)).now := by
    show (findN iv p (row.take (2 * r.length)) (row.take (2 * r.length)).length).now = _
    rw [htl, findN_take _ _ _ _ _ (Nat.le_refl _)]
  have hsl : s.length ≤ r.length := by
    rw [hs]
    exact find_least hp iv hiv row r _ fun i hi hri => hr i (by omega) hri
  have hb := Bm.all hp iv hiv row (2 * r.length)
  -- the rule holds on
  have hall : ∀ n i, i < n → i < row.length → s.length ≤ i → missN p s row i = 0 := by
    intro n
    induction n with
    | zero => intro i hi; omega
    | succ n ih =>
      intro i hi hir hsi
      rcases Nat.lt_or_ge i n with h | h
      · exact ih i h hir hsi
      · obtain rfl : i = n := by omega
        rcases Nat.lt_or_ge i (2 * r.length) with h2 | h2
        · rw [hs] at hsi ⊢
          exact hb.now i h2 hsi
        · rw [missN_zero hp0]
          exact massey s r row i (by omega) (fun j hj hsj => (missN_zero hp0 _ _ _).mp (ih j hj (by omega) hsj)) (fun j hj hrj => hr j (by omega) hrj)
  have hmiss : ∀ i, i < row.length → s.length ≤ i → missN p s row i = 0 := fun i hi hsi => hall (i + 1) i (by omega) hi hsi
  refine ⟨hsl, decide_eq_true hmiss, ?_⟩
  have key : ∀ n, 2 * r.length + n ≤ row.length → (findN iv p row (2 * r.length + n)).now = s := by
    intro n
    induction n with
    | zero => intro _; exact hs.symm
    | succ n ih =>
      intro hn
      have ih := ih (by omega)
      show (stepN iv p row (findN iv p row (2 * r.length + n)) (2 * r.length + n)).now = s
      unfold stepN
      rw [ih, if_pos (hmiss _ (by omega) (by omega))]
  have := key (row.length - 2 * r.length) (by omega)
  rwa [show 2 * r.length + (row.length - 2 * r.length) = row.length by omega] at this

end Vinc.Num
