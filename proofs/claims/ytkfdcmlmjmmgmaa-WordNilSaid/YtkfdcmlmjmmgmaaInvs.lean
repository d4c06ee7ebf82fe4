/- The inverses of many numbers. -/
import Derived.Test.YtkfdcmlmjmmgmaaField
set_option linter.unusedVariables false
namespace Go.Proofs
open Go Vinc

/-- The first thing that is wrong among numbers that are to be inverted. -/
def firstW (m : Nat) : List Nat → Nat
  | [] => 0
  | x :: l => if wrong x m ≠ 0 then wrong x m else firstW m l

theorem firstW_zero {m : Nat} : ∀ {l : List Nat}, (∀ j, j < l.length → wrong (l.getD j 0) m = 0) → firstW m l = 0
  | [], _ => rfl
  | x :: l, h => by
    have h0 := h 0 (by simp)
    simp only [List.getD_cons_zero] at h0
    unfold firstW
    rw [if_neg (by simp [h0])]
    exact firstW_zero fun j hj => by simpa using h (j + 1) (by simpa using hj)

theorem firstW_at {m : Nat} : ∀ {l : List Nat} {i : Nat}, i < l.length → (∀ j, j < i → wrong (l.getD j 0) m = 0) → wrong (l.getD i 0) m ≠ 0 → firstW m l = wrong (l.getD i 0) m
  | [], i, hi, _, _ => by simp at hi
  | x :: l, 0, hi, _, hw => by
    simp only [List.getD_cons_zero] at hw ⊢
    unfold firstW
    rw [if_pos hw]
  | x :: l, i + 1, hi, h, hw => by
    have h0 := h 0 (by omega)
    simp only [List.getD_cons_zero] at h0
    unfold firstW
    rw [if_neg (by simp [h0])]
    simp only [List.getD_cons_succ] at hw ⊢
    exact firstW_at (by simpa using hi) (fun j hj => by simpa using h (j + 1) (by omega)) hw

theorem firstW_eq_zero {m : Nat} {l : List Nat} (h : firstW m l = 0) : ∀ j, j < l.length → wrong (l.getD j 0) m = 0 := by
  induction l with
  | nil => intro j hj; simp at hj
  | cons x l ih =>
    unfold firstW at h
    split at h
    · contradiction
    · rename_i h0
      intro j hj
      cases j with
      | zero => simpa using h0
      | succ j => simpa using ih h j (by simpa using hj)

section
variable {m b t : Nat}

theorem wrong_lt (x m : Nat) : wrong x m ≤ 11 := by
  unfold wrong
  split
  · omega
  · split <;> omega

theorem first_spec (hm : MayM m) (xs : List Nat) (hl : xs.length < 1099511627776) : CallSpec Try.pr.P Try.pr.G 38 [fld m b t, u64s xs] (i64 (firstW m xs)) := by
  refine callSpec_of Try.pr Try.func38 rfl rfl rfl fun w0 ok0 hok hG => ?_
  refine ev_rs [] rfl trivial ?_
  refine ev_at (α := Unit) (fun _ => ∀ j, j < xs.length → wrong (xs.getD j 0) m = 0) (fun _ => []) (fun _ => []) ?_ ?_
  · refine ev_rs [] rfl trivial ?_
    refine ev_block (ev_while0 (α := Nat) (fun i => i ≤ xs.length ∧ ∀ j, j < i → wrong (xs.getD j 0) m = 0) (fun i => [(0, .p (fld m b t)), (9, .p (u64s xs)), (10, .p (i64 xs.length)), (11, .p (i64 i))]) (fun i => xs.length - i) 0
      ⟨Nat.zero_le _, fun j hj => by omega⟩ ⟨le_0, le_0, le_0, le_0, trivial⟩ ?_)
    rintro i ⟨h1, h2⟩
    refine ev_rs [] rfl trivial (ev_seq (ev_cond rfl (fun h => ev_sk ?_) (fun h => ev_exit ?_)))
    · have hi : i < xs.length := Int.ofNat_lt.mp (of_decide_eq_true h)
      refine ev_seq (ev_block ?_)
      refine ev_rs [] rfl ⟨hi, by omega, trivial⟩ ?_
      refine ev_rs [.tup 2 (two (u64 (minv m (xs.getD i 0))) (i64 (wrong (xs.getD i 0) m)))] rfl ⟨.inl (Inv_spec hm _), trivial⟩ ?_
      refine ev_rs [] rfl trivial (ev_cond rfl (fun h => ?_) (fun h => ?_))
      · have hw : wrong (xs.getD i 0) m ≠ 0 := fun e => (bne_iff_ne.mp h) (Int.ofNat_inj.mpr e)
        refine ev_rs [] rfl trivial (ev_ret (ret1 (fz_p (PLe.of_eq (congrArg i64 ?_)))))
        rw [firstW_at hi h2 hw]
      · have hw : wrong (xs.getD i 0) m = 0 := Int.ofNat_inj.mp (bne_eq_false_iff_eq.mp h)
        refine ev_skip ?_
        refine ev_region [] rfl trivial (round0 (i + 1) ⟨hi, fun j hj => ?_⟩ (by omega) ⟨le_0, le_0, le_0, le_e (congrArg (fun z => PV.val (.int .i64 z)) (wrapI _ (by omega) (by omega))), trivial⟩)
        rcases Nat.lt_or_ge j i with hj' | hj'
        · exact h2 j hj'
        · rw [show j = i by omega]; exact hw
    · have hi : i = xs.length := by
        have := of_decide_eq_false h
        omega
      subst hi
      exact at0 () h2 trivial
  rintro ⟨⟩ h
  refine ev_rs [] rfl trivial (ev_ret (ret1 (fz_p (PLe.of_eq (congrArg i64 ?_)))))
  rw [firstW_zero h]; rfl

/-- The product of the first numbers. -/
def pp (m : Nat) (xs : List Nat) : Nat → Nat
  | 0 => 1 % m
  | j + 1 => pp m xs j * xs.getD j 0 % m

theorem pp_gcd (hm : MayM m) (xs : List Nat) : ∀ n, Nat.gcd (pp m xs n) m = 1 ↔ ∀ j, j < n → Nat.gcd (xs.getD j 0) m = 1
  | 0 => by
    constructor
    · intro _ j hj; omega
    · intro _
      show Nat.gcd (1 % m) m = 1
      rw [gcd_mod, Nat.gcd_one_left]
  | n + 1 => by
    show Nat.gcd (pp m xs n * xs.getD n 0 % m) m = 1 ↔ _
    rw [gcd_mod]
    have h := pp_gcd hm xs n
    have h2 : Nat.gcd (pp m xs n * xs.getD n 0) m = 1 ↔ Nat.gcd (pp m xs n) m = 1 ∧ Nat.gcd (xs.getD n 0) m = 1 :=
      ⟨fun h => ⟨Nat.Coprime.coprime_dvd_left (Nat.dvd_mul_right _ _) h, Nat.Coprime.coprime_dvd_left (Nat.dvd_mul_left _ _) h⟩, fun h => Nat.Coprime.mul_left h.1 h.2⟩
    rw [h2, h]
    constructor
    · rintro ⟨ha, hb⟩ j hj
      rcases Nat.lt_or_ge j n with h' | h'
      · exact ha j h'
      · rw [show j = n by omega]; exact hb
    · intro ha
      exact ⟨fun j hj => ha j (by omega), ha n (by omega)⟩

/-- One division is enough: a step backwards. -/
theorem pp_back (hm : MayM m) (xs : List Nat) (i : Nat) (h : Nat.gcd (pp m xs (i + 1)) m = 1) :
    minv m (xs.getD i 0) = pp m xs i * minv m (pp m xs (i + 1)) % m ∧ minv m (pp m xs i) = minv m (pp m xs (i + 1)) * xs.getD i 0 % m := by
  have hmp : 0 < m := by have := hm.1; omega
  obtain ⟨h1, h2⟩ := minv_spec hm.1 h
  have e : pp m xs i * xs.getD i 0 % m = pp m xs (i + 1) := rfl
  generalize pp m xs (i + 1) = c at *
  generalize xs.getD i 0 = x at *
  generalize minv m c = v at *
  generalize pp m xs i = a at *
  constructor
  · apply minv_eq (Nat.mod_lt _ hmp)
    rw [← h2, ← e, Nat.mul_mod, Nat.mod_mod, ← Nat.mul_mod, Nat.mod_mul_mod]
    congr 1
    grind
  · apply minv_eq (Nat.mod_lt _ hmp)
    rw [← h2, ← e, Nat.mul_mod, Nat.mod_mod, ← Nat.mul_mod, Nat.mod_mul_mod]
    congr 1
    grind

theorem firstW_iff (hm : MayM m) (xs : List Nat) : firstW m xs = 0 ↔ wrong (pp m xs xs.length) m = 0 := by
  rw [wrong_gcd hm, pp_gcd hm]
  constructor
  · intro h j hj
    exact (wrong_gcd hm).mp (firstW_eq_zero h j hj)
  · intro h
    exact firstW_zero fun j hj => (wrong_gcd hm).mpr (h j hj)

theorem pp_gcd_le (hm : MayM m) (xs : List Nat) {n k : Nat} (hk : k ≤ n) (h : Nat.gcd (pp m xs n) m = 1) : Nat.gcd (pp m xs k) m = 1 :=
  (pp_gcd hm xs k).mpr fun j hj => (pp_gcd hm xs n).mp h j (by omega)

theorem Invs_nil (x : PV) : CallSpec Try.pr.P Try.pr.G 28 [nilP, x] (.tup 2 (two nilS (i64 2))) := by
  refine callSpec_of Try.pr Try.func28 rfl rfl rfl fun w0 ok0 hok hG => ?_
  refine ev_rs [] rfl trivial ?_
  refine ev_seq (ev_rs [] rfl trivial (ev_ct rfl ?_))
  exact ev_rs [] rfl trivial (ev_ret (ret2 (fz_p (PLe.refl _)) (fz_p (PLe.refl _))))

/-- What all the inverses are. -/
noncomputable def invsR (m : Nat) (xs : List Nat) : PV := if firstW m xs = 0 then .sl xs.length 1 (fun j => u64 (minv m (xs.getD j 0))) else nilS

theorem Invs_spec (hm : MayM m) (xs : List Nat) (hl : xs.length < 1099511627776) : CallSpec Try.pr.P Try.pr.G 28 [fld m b t, u64s xs] (.tup 2 (two (invsR m xs) (i64 (firstW m xs)))) := by
  refine callSpec_of Try.pr Try.func28 rfl rfl rfl fun w0 ok0 hok hG => ?_
  refine ev_rs [] rfl trivial ?_
  refine ev_seq (ev_rs [] rfl trivial (ev_cf rfl (ev_sk ?_)))
  refine ev_rs [] rfl ⟨⟨by omega, by omega, by omega⟩, trivial⟩ ?_
  refine ev_rs [u64 (1 % m)] rfl ⟨.inl (Of_spec hm 1), trivial⟩ ?_
  refine ev_at (α := Unit) (fun _ => True) (fun _ => [(0, .p (fld m b t)), (1, .p (u64s xs)), (6, .own 17 0 xs.length 1), (7, .p (u64 (pp m xs xs.length)))]) (fun _ => [(17, ⟨xs.length, fun j => .p (u64 (pp m xs j))⟩)]) ?_ ?_
  · refine ev_rs [] rfl trivial ?_
    refine ev_block (ev_while (α := Nat) (fun i => i ≤ xs.length) (fun i => [(0, .p (fld m b t)), (1, .p (u64s xs)), (6, .own 17 0 xs.length 1), (7, .p (u64 (pp m xs i))), (20, .p (u64s xs)), (21, .p (i64 xs.length)), (22, .p (i64 i))])
      (fun i => [(17, ⟨xs.length, fun j => .p (u64 (if j < i then pp m xs j else 0))⟩)]) (fun i => xs.length - i) 0 (Nat.zero_le _)
      (wk1 _ rfl (Nat.le_refl _) (fun hd j hj => le_refl hd _) (fun hd => ⟨le_refl hd _, le_refl hd _, le_o rfl, le_refl hd _, le_refl hd _, le_refl hd _, le_refl hd _, trivial⟩)) ?_)
    rintro i h1
    refine ev_rs [] rfl trivial (ev_seq (ev_cond rfl (fun h => ev_sk ?_) (fun h => ev_exit ?_)))
    · have hi : i < xs.length := Int.ofNat_lt.mp (of_decide_eq_true h)
      refine ev_seq (ev_block ?_)
      refine ev_rs [] rfl ⟨hi, by omega, trivial⟩ ?_
      refine ev_rs [] rfl ?_ ?_
      · exact ⟨hi, ⟨by omega, by omega⟩, trivial⟩
      refine ev_region [u64 (pp m xs (i + 1))] rfl ⟨.inl (Mul_spec hm _ _), trivial⟩ ?_
      refine ev_region [] rfl trivial ⟨i + 1, hi, by dsimp only; omega, wk1 _ rfl (Nat.le_refl _) (fun hd j hj => ?_) (fun hd => ⟨le_refl hd _, le_refl hd _, le_o rfl, le_refl hd _, le_refl hd _, le_refl hd _, le_n hd (congrArg (fun z => PV.val (.int .i64 z)) (wrapI _ (by omega) (by omega))), trivial⟩)⟩
      refine le_upd (fun e => le_n hd (congrArg u64 (a₁ := pp m xs i) ?_)) (fun e => le_n hd (congrArg u64 (a₁ := if j < i then pp m xs j else 0) ?_))
      · replace e : j = i := e
        rw [e, if_pos (Nat.lt_succ_self i)]
      · replace e : j ≠ i := e
        by_cases hj' : j < i
        · rw [if_pos hj', if_pos (by omega)]
        · rw [if_neg hj', if_neg (by omega)]
    · have hi : i = xs.length := by
        have := of_decide_eq_false h
        omega
      subst hi
      exact at1 () trivial _ rfl (Nat.le_refl _) (fun hd j hj => le_n hd (congrArg u64 (if_pos hj))) (fun hd => ⟨le_refl hd _, le_refl hd _, le_o rfl, le_refl hd _, trivial⟩)
  rintro ⟨⟩ -
  refine ev_rs [.tup 2 (two (u64 (minv m (pp m xs xs.length))) (i64 (wrong (pp m xs xs.length) m)))] rfl ⟨.inl (Inv_spec hm _), trivial⟩ ?_
  refine ev_seq (ev_rs [] rfl trivial (ev_cond rfl (fun h => ?_) (fun h => ev_sk ?_)))
  · have hw : wrong (pp m xs xs.length) m ≠ 0 := fun e => (bne_iff_ne.mp h) (Int.ofNat_inj.mpr e)
    refine ev_rs [i64 (firstW m xs)] rfl ⟨.inl (first_spec hm xs hl), trivial⟩ (ev_ret (ret2 (fz_p (PLe.of_eq ?_)) (fz_p (PLe.refl _))))
    unfold invsR
    rw [if_neg (fun e => hw ((firstW_iff hm xs).mp e))]
  have hw : wrong (pp m xs xs.length) m = 0 := Int.ofNat_inj.mp (bne_eq_false_iff_eq.mp h)
  have hf : firstW m xs = 0 := (firstW_iff hm xs).mpr hw
  have hg : Nat.gcd (pp m xs xs.length) m = 1 := (wrong_gcd hm).mp hw
  refine ev_at (α := Unit) (fun _ => True) (fun _ => [(6, .own 17 0 xs.length 1)]) (fun _ => [(17, ⟨xs.length, fun j => .p (u64 (minv m (xs.getD j 0)))⟩)]) ?_ ?_
  · refine ev_rs [] rfl trivial ?_
    refine ev_block (ev_while (α := Nat) (fun k => k ≤ xs.length) (fun k => [(0, .p (fld m b t)), (1, .p (u64s xs)), (6, .own 17 0 xs.length 1), (10, .p (u64 (minv m (pp m xs k)))), (12, .p (i64 ((k : Int) - 1)))])
      (fun k => [(17, ⟨xs.length, fun j => .p (u64 (if j < k then pp m xs j else minv m (xs.getD j 0)))⟩)]) (fun k => k) xs.length (Nat.le_refl _)
      (wk1 _ rfl (Nat.le_refl _) (fun hd j hj => le_n hd (congrArg u64 (if_pos hj).symm)) (fun hd => ⟨le_refl hd _, le_refl hd _, le_o rfl, le_refl hd _, le_n hd (congrArg (fun z => PV.val (.int .i64 z)) (wrapI _ (by omega) (by omega))), trivial⟩)) ?_)
    rintro k h1
    refine ev_seq (ev_rs [] rfl trivial (ev_cond rfl (fun h => ev_sk ?_) (fun h => ev_exit ?_)))
    · have hk : 0 < k := by
        have := of_decide_eq_true h
        omega
      obtain ⟨i, rfl⟩ : ∃ i, k = i + 1 := ⟨k - 1, by omega⟩
      have hi : i < xs.length := h1
      obtain ⟨hb1, hb2⟩ := pp_back hm xs i (pp_gcd_le hm xs h1 hg)
      refine ev_eq 12 (.p (i64 i)) (congrArg (fun z => AV.p (PV.val (.int .i64 z))) (show ((i + 1 : Nat) : Int) - 1 = i by omega)) ?_
      refine ev_seq (ev_block ?_)
      refine ev_rs [u64 (minv m (xs.getD i 0))] rfl ⟨hi, ⟨by omega, by omega⟩, .inl ?_, hi, ⟨by omega, by omega⟩, trivial⟩ ?_
      · show CallSpec _ _ _ [_, u64 (if i < i + 1 then pp m xs i else minv m (xs.getD i 0)), _] _
        rw [if_pos (Nat.lt_succ_self i), hb1]
        exact Mul_spec hm _ _
      refine ev_region [u64 (minv m (pp m xs i))] rfl ⟨.inl ?_, hi, ⟨by omega, by omega⟩, trivial⟩ ?_
      · rw [hb2]
        exact Mul_spec hm _ _
      refine ev_region [] rfl trivial ⟨i, by omega, by dsimp only; omega, wk1 _ rfl (Nat.le_refl _) (fun hd j hj => ?_) (fun hd => ⟨le_refl hd _, le_refl hd _, le_o rfl, le_refl hd _, le_n hd (congrArg (fun z => PV.val (.int .i64 z)) (wrapI _ (by omega) (by omega))), trivial⟩)⟩
      refine le_upd (fun e => le_n hd (congrArg u64 (a₁ := minv m (xs.getD i 0)) ?_)) (fun e => le_n hd (congrArg u64 (a₁ := if j < i + 1 then pp m xs j else minv m (xs.getD j 0)) ?_))
      · replace e : j = i := e
        rw [e, if_neg (Nat.lt_irrefl i)]
      · replace e : j ≠ i := e
        by_cases hj' : j < i
        · rw [if_pos hj', if_pos (by omega)]
        · rw [if_neg hj', if_neg (by omega)]
    · have hk : k = 0 := by
        have := of_decide_eq_false h
        omega
      subst hk
      exact at1 () trivial _ rfl (Nat.le_refl _) (fun hd j hj => le_n hd (congrArg u64 (if_neg (Nat.not_lt_zero j)))) (fun hd => ⟨le_o rfl, trivial⟩)
  rintro ⟨⟩ -
  have hr : invsR m xs = .sl xs.length 1 (fun j => u64 (minv m (xs.getD j 0))) := if_pos hf
  rw [hr, hf]
  refine ev_rs [] rfl trivial ?_
  refine ev_ret (ret2 (fz_own rfl ?_ (fun j hj => fz_p (PLe.of_eq ?_))) (fz_p (PLe.refl _)))
  · show 0 + xs.length * 1 ≤ xs.length
    omega
  · rw [Nat.zero_add]

end
end Go.Proofs
