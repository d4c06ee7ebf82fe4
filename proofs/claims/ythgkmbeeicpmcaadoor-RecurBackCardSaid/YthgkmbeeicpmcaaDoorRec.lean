/- The rows of recur, walked. -/
import Derived.Test.YthgkmbeeicpmcaaDoorPrime
import Derived.Test.YthgkmbeeicpmcaaDoorVincRec
set_option linter.unusedVariables false
namespace Go.Proofs
open Go Vinc Vinc.Num

section
variable {m b t : Nat}

theorem Sb_spec (hm : MayM m) (x y : Nat) : CallSpec Tryd.pr.P Tryd.pr.G 26 [fld m b t, u64 x, u64 y] (u64 (sb x y m)) := Sub_spec hm x y

theorem field_ok {p : Nat} (hm : MayM p) (hb : isB p = true) : CallSpec Tryd.pr.P Tryd.pr.G 20 [u64 p] (.tup 2 (two (newF p) (i64 0))) := by
  have hm2 := hm.2
  refine callSpec_of Tryd.pr Tryd.func20 rfl rfl rfl fun w0 ok0 hok hG => ?_
  refine ev_rs [] rfl trivial ?_
  refine ev_seq (ev_rs [Vinc.bool (isB p)] rfl (by repeat' (first | exact trivial | exact gd_t | exact gd_f | exact .inl (Is_spec p (by omega)) | exact (fun _ => rfl) | intro _ | apply And.intro | assumption | exact rfl | exact gd_t (by assumption) | exact gd_f (by assumption) | exact gd_a (by assumption) (by assumption))) (ev_cond rfl (fun h => ?_) (fun _ => ev_sk ?_)))
  · exfalso
    rw [hb, decide_eq_false (by omega)] at h
    cases h
  refine ev_rs [.tup 2 (two (newF p) (i64 0))] rfl ⟨.inl (New_spec hm), trivial⟩ ?_
  exact ev_ret (ret2 (fz_p (PLe.refl _)) (fz_p (PLe.refl _)))

theorem field_no {p : Nat} (hp : p < 18446744073709551616) (h : ¬ (p < 9223372036854775808 ∧ isB p = true)) : CallSpec Tryd.pr.P Tryd.pr.G 20 [u64 p] (.tup 2 (two nilP (i64 14))) := by
  refine callSpec_of Tryd.pr Tryd.func20 rfl rfl rfl fun w0 ok0 hok hG => ?_
  refine ev_rs [] rfl trivial ?_
  refine ev_seq (ev_rs [Vinc.bool (isB p)] rfl (by repeat' (first | exact trivial | exact gd_t | exact gd_f | exact .inl (Is_spec p hp) | exact (fun _ => rfl) | intro _ | apply And.intro | assumption | exact rfl | exact gd_t (by assumption) | exact gd_f (by assumption) | exact gd_a (by assumption) (by assumption))) (ev_cond rfl (fun _ => ?_) (fun h2 => ?_)))
  · exact ev_rs [] rfl trivial (ev_ret (ret2 (fz_p (PLe.refl _)) (fz_p (PLe.refl _))))
  · exfalso
    apply h
    by_cases hq : p < 9223372036854775808
    · refine ⟨hq, ?_⟩
      rw [decide_eq_false (by omega)] at h2
      cases hb : isB p
      · rw [hb] at h2; cases h2
      · rfl
    · rw [decide_eq_true (by omega)] at h2
      cases h2

theorem miss_spec (hm : MayM m) (r row : List Nat) (i0 : Nat) (hi : i0 < row.length) (hr : r.length ≤ i0) (hl : row.length < 1099511627776) :
    CallSpec Tryd.pr.P Tryd.pr.G 22 [fld m b t, u64s r, u64s row, i64 i0] (u64 (missN m r row i0)) := by
  refine callSpec_of Tryd.pr Tryd.func22 rfl rfl rfl fun w0 ok0 hok hG => ?_
  refine ev_rs [] rfl trivial ?_
  refine ev_rs [u64 (row.getD i0 0 % m)] rfl ⟨.inl (Of_spec hm _), hi, ⟨by omega, by omega⟩, trivial⟩ ?_
  refine ev_at (α := Unit) (fun _ => True) (fun _ => [(9, .p (u64 (missN m r row i0)))]) (fun _ => []) ?_ ?_
  · refine ev_rs [] rfl trivial ?_
    refine ev_block (ev_while0 (α := Nat) (fun i => i ≤ r.length) (fun i => [(0, .p (fld m b t)), (1, .p (u64s r)), (2, .p (u64s row)), (3, .p (i64 i0)), (9, .p (u64 (missF m r row i0 i))), (18, .p (i64 r.length)), (19, .p (i64 i))]) (fun i => r.length - i) 0
      (Nat.zero_le _) ⟨le_0, le_0, le_0, le_0, le_0, le_0, le_0, trivial⟩ ?_)
    rintro i h1
    refine ev_rs [] rfl trivial (ev_seq (ev_cond rfl (fun h => ev_sk ?_) (fun h => ev_exit ?_)))
    · have hi2 : i < r.length := Int.ofNat_lt.mp (of_decide_eq_true h)
      refine ev_seq (ev_block ?_)
      have e1 : IntKind.wrap .i64 (IntKind.wrap .i64 ((i0 : Int) - 1) - (i : Int)) = ((i0 - 1 - i : Nat) : Int) := by
        rw [wrapI ((i0 : Int) - 1) (by omega) (by omega), wrapI _ (by omega) (by omega)]; omega
      refine ev_rs [] rfl trivial ?_
      refine ev_draw [u64 (r.getD i 0 * row.getD (i0 - 1 - i) 0 % m), u64 (missF m r row i0 (i + 1))] (by kernel_rfl) rfl rfl ?_ ?_
      · rw [e1]
        exact ⟨.inl (Add_spec hm _ _), .inl (Mul_spec hm _ _), (by omega : i0 - 1 - i < row.length), ⟨by omega, by omega⟩, hi2, ⟨by omega, by omega⟩, trivial⟩
      refine ev_region [] rfl trivial (round0 (i + 1) hi2 (by omega) ⟨le_0, le_0, le_0, le_0, le_0, le_0, le_e (congrArg (fun z => PV.val (.int .i64 z)) (wrapI _ (by omega) (by omega))), trivial⟩)
    · have hi : i = r.length := by
        have := of_decide_eq_false h
        omega
      subst hi
      exact at0 () trivial ⟨le_0, trivial⟩
  rintro ⟨⟩ h
  exact ev_rs [] rfl trivial (ev_ret (ret1 (fz_p (PLe.refl _))))

/-- A rule, and 0 behind it. -/
theorem grown_spec (r : List Nat) (n : Nat) (hr : r.length < 1099511627776) (hn : n < 1099511627776) :
    CallSpecO Tryd.pr.P Tryd.pr.G 25 [u64s r, i64 n] (grownN r n).length 1 (fun j => u64 ((grownN r n).getD j 0)) := by
  have hlen := length_grownN r n
  have hmax : (if (r.length : Int) > (n : Int) then (r.length : Int) else (n : Int)) = ((grownN r n).length : Nat) := by
    rw [hlen]; split <;> omega
  refine callSpecO_of Tryd.pr Tryd.func25 rfl rfl rfl fun w0 ok0 hok hG => ?_
  refine ev_rs [] rfl trivial ?_
  refine ev_rs [] rfl ?_ ?_
  · refine ⟨⟨?_, ?_, ?_⟩, trivial⟩
    all_goals
      show _ ≤ (_ : Int)
      first | exact Int.le_refl _ | skip
    · exact hmax ▸ Int.natCast_nonneg _
    · exact hmax ▸ (by omega : (((grownN r n).length : Nat) : Int) ≤ 1099511627776)
  refine ev_made 5 10 (grownN r n).length rfl rfl (show (if (r.length : Int) > (n : Int) then (r.length : Int) else (n : Int)).toNat = _ by rw [hmax]; rfl) ?_
  refine ev_rs [] rfl ⟨⟨(by simp : 0 + (grownN r n).length ≤ (List.replicate (grownN r n).length 0).length), trivial⟩, trivial⟩ ?_
  refine ev_rs [] rfl trivial (ev_ret ?_)
  refine .inr ⟨_, 10, _, rfl, rfl, rfl, (by show _ * 1 ≤ (List.replicate (grownN r n).length 0).length; simp), fun j hj => ⟨_, ?_, rfl⟩⟩
  have hj : j < (grownN r n).length := by omega
  have hm : Nat.min r.length (grownN r n).length = r.length := Nat.min_eq_left (by omega)
  show (if 0 ≤ j then (if j < 0 + Nat.min r.length (grownN r n).length then AV.p (u64 (r.getD (j - 0) 0)) else AV.p (u64 ((List.replicate (grownN r n).length 0).getD j 0))) else AV.p (u64 ((List.replicate (grownN r n).length 0).getD j 0))) = AV.p (u64 ((grownN r n).getD j 0))
  rw [if_pos (Nat.zero_le j), hm, getD_grownN, Nat.zero_add, Nat.sub_zero, getD_rep]
  split <;> rfl

/-- A copy. -/
theorem Clone_spec (xs : List Nat) (hl : xs.length < 1099511627776) : CallSpecO Tryd.pr.P Tryd.pr.G 36 [u64s xs] xs.length 1 (fun j => u64 (xs.getD j 0)) := by
  refine callSpecO_of Tryd.pr Tryd.func36 rfl rfl rfl fun w0 ok0 hok hG => ?_
  refine ev_rs [] rfl trivial ?_
  cases xs with
  | nil =>
    refine ev_empty 0 1 rfl fun A cap => ?_
    cases A with
    | none =>
      exact ev_seq (ev_rs [] rfl trivial (ev_ct rfl (ev_rs [] rfl trivial (ev_ret (.inl ⟨_, rfl, rfl, rfl⟩)))))
    | some A =>
      refine ev_seq (ev_rs [] rfl trivial (ev_cf rfl (ev_sk ?_)))
      refine ev_wk (σ' := mk [(0, .p (u64s []))] []) (wk (fun i => i) ⟨le_p ren_nil PLe.empty, trivial⟩ trivial rfl) ?_
      refine ev_rs [] rfl ⟨⟨by decide, rfl, trivial⟩, trivial⟩ (ev_app 2 7 [] [] rfl rfl rfl rfl rfl (fun j hj => by cases hj) (fun j _ => rfl) (ev_ret (.inr ⟨_, 7, _, rfl, rfl, rfl, Nat.le_refl _, fun j hj => ⟨_, rfl, rfl⟩⟩)))
  | cons x xs =>
    refine ev_seq (ev_rs [] rfl ⟨by show (xs.length + 1) * 1 ≠ 0; omega, trivial⟩ (ev_cf rfl (ev_sk ?_)))
    refine ev_rs [] rfl ⟨⟨?_, rfl, trivial⟩, trivial⟩ (ev_app 2 7 [] (x :: xs) rfl rfl rfl rfl rfl (fun j hj => by cases hj) (fun j _ => rfl) (ev_ret (.inr ⟨_, 7, _, rfl, rfl, rfl, ?_, fun j hj => ⟨_, rfl, rfl⟩⟩)))
    · show 0 + (xs.length + 1) ≤ 1099511627776
      simp at hl
      omega
    · show _ * 1 ≤ ([] ++ x :: xs).length
      simp

/-- A rule's polynomial. -/
theorem Char_ok {p : Nat} (hm : MayM p) (hb : isB p = true) (r : List Nat) (hr : r.length < 1000000) :
    CallSpec Tryd.pr.P Tryd.pr.G 14 [u64 p, u64s r] (.tup 2 (two (u64s (charN p r)) (i64 0))) := by
  refine callSpec_of Tryd.pr Tryd.func14 rfl rfl rfl fun w0 ok0 hok hG => ?_
  refine ev_rs [] rfl trivial ?_
  refine ev_rs [.tup 2 (two (newF p) (i64 0))] rfl ⟨.inl (field_ok hm hb), trivial⟩ ?_
  refine ev_seq (ev_rs [] rfl trivial (ev_cf rfl (ev_sk ?_)))
  have e1 : IntKind.wrap .i64 ((r.length : Int) + 1) = ((r.length + 1 : Nat) : Int) := by rw [wrapI _ (by omega) (by omega)]; omega
  refine ev_rs [] rfl ?_ ?_
  · rw [e1]
    exact ⟨⟨by omega, by omega, by omega⟩, trivial⟩
  refine ev_made 8 22 (r.length + 1) rfl rfl (show (IntKind.wrap .i64 ((r.length : Int) + 1)).toNat = _ by rw [e1]; rfl) ?_
  have hrl : (List.replicate (r.length + 1) 0).length = r.length + 1 := List.length_replicate
  refine ev_rs [] rfl ⟨(by rw [hrl]; omega : r.length + 1 ≤ (List.replicate (r.length + 1) 0).length), ⟨by omega, by omega⟩, trivial⟩ ?_
  refine ev_set 22 r.length 1 rfl rfl rfl (by rw [hrl]; omega) ?_
  refine ev_at (α := Unit) (fun _ => True) (fun _ => [(8, .own 22 0 (r.length + 1) 1)]) (fun _ => [(22, ob64 (charK p r r.length))]) ?_ ?_
  · refine ev_rs [] rfl trivial ?_
    refine ev_block (ev_while (α := Nat) (fun i => i ≤ r.length) (fun i => [(0, .p (u64 p)), (1, .p (u64s r)), (6, .p (newF p)), (8, .own 22 0 (r.length + 1) 1), (27, .p (u64s r)), (28, .p (i64 r.length)), (29, .p (i64 i))]) (fun i => [(22, ob64 (charK p r i))]) (fun i => r.length - i) 0
      (Nat.zero_le _) (wk_ob rfl (fun hd => ⟨le_refl hd _, le_refl hd _, le_refl hd _, le_o rfl, le_refl hd _, le_refl hd _, le_refl hd _, trivial⟩)) ?_)
    rintro i h1
    refine ev_rs [] rfl trivial (ev_seq (ev_cond rfl (fun h => ev_sk ?_) (fun h => ev_exit ?_)))
    · have hi : i < r.length := Int.ofNat_lt.mp (of_decide_eq_true h)
      refine ev_seq (ev_block ?_)
      have e2 : IntKind.wrap .i64 (IntKind.wrap .i64 ((r.length : Int) - 1) - (i : Int)) = ((r.length - 1 - i : Nat) : Int) := by
        rw [wrapI ((r.length : Int) - 1) (by omega) (by omega), wrapI _ (by omega) (by omega)]; omega
      have hck := length_charK p r i
      refine ev_rs [] rfl ⟨hi, ⟨by omega, by omega⟩, trivial⟩ ?_
      refine ev_region [u64 (r.getD i 0 % p)] rfl ?_ ?_
      · rw [e2]
        exact ⟨(by rw [hck]; omega : r.length - 1 - i + 1 ≤ (charK p r i).length), ⟨by omega, by omega⟩, .inl (Of_spec hm _), trivial⟩
      refine ev_set 22 (r.length - 1 - i) (r.getD i 0 % p) rfl (by show (IntKind.wrap .i64 (IntKind.wrap .i64 ((r.length : Int) - 1) - (i : Int))).toNat = _; rw [e2]; rfl) rfl (by rw [hck]; omega) ?_
      refine ev_region [] rfl trivial ⟨i + 1, hi, by dsimp only; omega, wk_ob rfl (fun hd => ⟨le_refl hd _, le_refl hd _, le_refl hd _, le_o rfl, le_refl hd _, le_refl hd _, le_n hd (congrArg (fun z => PV.val (.int .i64 z)) (wrapI _ (by omega) (by omega))), trivial⟩)⟩
    · have hi : i = r.length := by
        have := of_decide_eq_false h
        omega
      subst hi
      exact at_ob () trivial rfl (fun hd => ⟨le_o rfl, trivial⟩)
  rintro ⟨⟩ -
  refine ev_rs [] rfl trivial (ev_ret (ret2 (fz_ob' rfl (by rw [length_charK]) (charK_all p r)) (fz_p (PLe.refl _))))

theorem Char_no {p : Nat} (hp : p < 18446744073709551616) (h : ¬ (p < 9223372036854775808 ∧ isB p = true)) (r : PV) :
    CallSpec Tryd.pr.P Tryd.pr.G 14 [u64 p, r] (.tup 2 (two nilS (i64 14))) := by
  refine callSpec_of Tryd.pr Tryd.func14 rfl rfl rfl fun w0 ok0 hok hG => ?_
  refine ev_rs [] rfl trivial ?_
  refine ev_rs [.tup 2 (two nilP (i64 14))] rfl ⟨.inl (field_no hp h), trivial⟩ ?_
  refine ev_seq (ev_rs [] rfl trivial (ev_ct rfl ?_))
  exact ev_rs [] rfl trivial (ev_ret (ret2 (fz_p (PLe.refl _)) (fz_p (PLe.refl _))))

theorem Holds_no {p : Nat} (hp : p < 18446744073709551616) (h : ¬ (p < 9223372036854775808 ∧ isB p = true)) (r row : PV) :
    CallSpec Tryd.pr.P Tryd.pr.G 17 [u64 p, r, row] (.tup 2 (two (Vinc.bool false) (i64 14))) := by
  refine callSpec_of Tryd.pr Tryd.func17 rfl rfl rfl fun w0 ok0 hok hG => ?_
  refine ev_rs [] rfl trivial ?_
  refine ev_rs [.tup 2 (two nilP (i64 14))] rfl ⟨.inl (field_no hp h), trivial⟩ ?_
  refine ev_seq (ev_rs [] rfl trivial (ev_ct rfl ?_))
  exact ev_rs [] rfl trivial (ev_ret (ret2 (fz_p (PLe.refl _)) (fz_p (PLe.refl _))))

theorem Holds_ok {p : Nat} (hm : MayM p) (hb : isB p = true) (r row : List Nat) (hl : row.length < 1000000) (hr : r.length < 1000000) :
    CallSpec Tryd.pr.P Tryd.pr.G 17 [u64 p, u64s r, u64s row] (.tup 2 (two (Vinc.bool (holdsB p r row)) (i64 0))) := by
  refine callSpec_of Tryd.pr Tryd.func17 rfl rfl rfl fun w0 ok0 hok hG => ?_
  refine ev_rs [] rfl trivial ?_
  refine ev_rs [.tup 2 (two (newF p) (i64 0))] rfl ⟨.inl (field_ok hm hb), trivial⟩ ?_
  refine ev_seq (ev_rs [] rfl trivial (ev_cf rfl (ev_sk ?_)))
  refine ev_at (α := Unit) (fun _ => ∀ i, i < row.length → r.length ≤ i → missN p r row i = 0) (fun _ => []) (fun _ => []) ?_ ?_
  · refine ev_rs [] rfl trivial ?_
    refine ev_block (ev_while0 (α := Nat) (fun i => r.length ≤ i ∧ (i ≤ row.length ∨ i = r.length) ∧ ∀ j, j < i → j < row.length → r.length ≤ j → missN p r row j = 0) (fun i => [(1, .p (u64s r)), (2, .p (u64s row)), (8, .p (newF p)), (10, .p (i64 i))]) (fun i => row.length - i) r.length
      ⟨Nat.le_refl _, .inr rfl, fun j h1 _ h3 => by omega⟩ ⟨le_0, le_0, le_0, le_0, trivial⟩ ?_)
    rintro i ⟨h1, h2, h3⟩
    refine ev_seq (ev_rs [] rfl trivial (ev_cond rfl (fun h => ev_sk ?_) (fun h => ev_exit ?_)))
    · have hi : i < row.length := Int.ofNat_lt.mp (of_decide_eq_true h)
      refine ev_seq (ev_block ?_)
      refine ev_rs [u64 (missN p r row i)] rfl ⟨.inl (miss_spec hm r row i hi h1 (by omega)), trivial⟩ (ev_cond rfl (fun h => ?_) (fun h => ?_))
      · have hne : missN p r row i ≠ 0 := fun e => (bne_iff_ne.mp h) (Int.ofNat_inj.mpr e)
        refine ev_rs [] rfl trivial (ev_ret (ret2 (fz_p (PLe.of_eq (congrArg Vinc.bool ?_))) (fz_p (PLe.refl _))))
        exact (decide_eq_false fun hall => hne (hall i hi h1)).symm
      · have heq : missN p r row i = 0 := Int.ofNat_inj.mp (bne_eq_false_iff_eq.mp h)
        refine ev_skip ?_
        refine ev_region [] rfl trivial (round0 (i + 1) ⟨by omega, .inl hi, fun j h4 h5 h6 => ?_⟩ (by omega) ⟨le_0, le_0, le_0, le_e (congrArg (fun z => PV.val (.int .i64 z)) (wrapI _ (by omega) (by omega))), trivial⟩)
        rcases Nat.lt_or_ge j i with hj | hj
        · exact h3 j hj h5 h6
        · rw [show j = i by omega]; exact heq
    · have hi : row.length ≤ i := by
        have := of_decide_eq_false h
        omega
      exact at0 () (fun j h4 h5 => h3 j (by omega) h4 h5) trivial
  rintro ⟨⟩ h
  refine ev_rs [] rfl trivial (ev_ret (ret2 (fz_p (PLe.of_eq (congrArg Vinc.bool ?_))) (fz_p (PLe.refl _))))
  exact (decide_eq_true h).symm

theorem Same_spec (xs ys : List Nat) (hl : xs.length < 1000000) (hl2 : ys.length < 1000000) : CallSpec Tryd.pr.P Tryd.pr.G 19 [u64s xs, u64s ys] (Vinc.bool (decide (xs = ys))) := by
  refine callSpec_of Tryd.pr Tryd.func19 rfl rfl rfl fun w0 ok0 hok hG => ?_
  refine ev_rs [] rfl trivial ?_
  refine ev_seq (ev_rs [] rfl trivial (ev_cond rfl (fun h => ?_) (fun h => ev_sk ?_)))
  · have hne : xs.length ≠ ys.length := fun e => (bne_iff_ne.mp h) (Int.ofNat_inj.mpr e)
    refine ev_rs [] rfl trivial (ev_ret (ret1 (fz_p (PLe.of_eq (congrArg Vinc.bool ?_)))))
    exact (decide_eq_false fun e => hne (congrArg _ e)).symm
  have hlen : xs.length = ys.length := Int.ofNat_inj.mp (bne_eq_false_iff_eq.mp h)
  refine ev_at (α := Unit) (fun _ => xs = ys) (fun _ => []) (fun _ => []) ?_ ?_
  · refine ev_rs [] rfl trivial ?_
    refine ev_block (ev_while0 (α := Nat) (fun i => i ≤ xs.length ∧ ∀ j, j < i → xs.getD j 0 = ys.getD j 0) (fun i => [(0, .p (u64s xs)), (1, .p (u64s ys)), (5, .p (i64 i))]) (fun i => xs.length - i) 0
      ⟨Nat.zero_le _, fun j h1 => by omega⟩ ⟨le_0, le_0, le_0, trivial⟩ ?_)
    rintro i ⟨h1, h3⟩
    refine ev_seq (ev_rs [] rfl trivial (ev_cond rfl (fun h => ev_sk ?_) (fun h => ev_exit ?_)))
    · have hi : i < xs.length := Int.ofNat_lt.mp (of_decide_eq_true h)
      refine ev_seq (ev_block ?_)
      refine ev_ds [] (by kernel_rfl) rfl rfl ⟨(hlen ▸ hi : i < ys.length), ⟨by omega, by omega⟩, hi, ⟨by omega, by omega⟩, trivial⟩ (ev_cond rfl (fun h => ?_) (fun h => ?_))
      · have hne : xs.getD i 0 ≠ ys.getD i 0 := fun e => (bne_iff_ne.mp h) (Int.ofNat_inj.mpr e)
        refine ev_rs [] rfl trivial (ev_ret (ret1 (fz_p (PLe.of_eq (congrArg Vinc.bool ?_)))))
        exact (decide_eq_false fun e => hne (by rw [e])).symm
      · have heq : xs.getD i 0 = ys.getD i 0 := Int.ofNat_inj.mp (bne_eq_false_iff_eq.mp h)
        refine ev_skip ?_
        refine ev_region [] rfl trivial (round0 (i + 1) ⟨hi, fun j h4 => ?_⟩ (by omega) ⟨le_0, le_0, le_e (congrArg (fun z => PV.val (.int .i64 z)) (wrapI _ (by omega) (by omega))), trivial⟩)
        rcases Nat.lt_or_ge j i with hj | hj
        · exact h3 j hj
        · rw [show j = i by omega]; exact heq
    · have hi : i = xs.length := by
        have := of_decide_eq_false h
        omega
      subst hi
      exact at0 () (list_eq hlen h3) trivial
  rintro ⟨⟩ h
  refine ev_rs [] rfl trivial (ev_ret (ret1 (fz_p (PLe.of_eq (congrArg Vinc.bool ?_)))))
  exact (decide_eq_true h).symm

theorem More_no {p : Nat} (hp : p < 18446744073709551616) (h : ¬ (p < 9223372036854775808 ∧ isB p = true)) (r row many : PV) :
    CallSpec Tryd.pr.P Tryd.pr.G 18 [u64 p, r, row, many] (.tup 2 (two nilS (i64 14))) := by
  refine callSpec_of Tryd.pr Tryd.func18 rfl rfl rfl fun w0 ok0 hok hG => ?_
  refine ev_rs [] rfl trivial ?_
  refine ev_rs [.tup 2 (two nilP (i64 14))] rfl ⟨.inl (field_no hp h), trivial⟩ ?_
  refine ev_seq (ev_block (ev_rs [] rfl trivial (ev_ct rfl ?_)))
  exact ev_rs [] rfl trivial (ev_ret (ret2 (fz_p (PLe.refl _)) (fz_p (PLe.refl _))))

theorem More_arg {p : Nat} (hm : MayM p) (hb : isB p = true) (r row : List Nat) (many : Int) (h : many < 0 ∨ row.length < r.length) :
    CallSpec Tryd.pr.P Tryd.pr.G 18 [u64 p, u64s r, u64s row, i64 many] (.tup 2 (two nilS (i64 1))) := by
  refine callSpec_of Tryd.pr Tryd.func18 rfl rfl rfl fun w0 ok0 hok hG => ?_
  refine ev_rs [] rfl trivial ?_
  refine ev_rs [.tup 2 (two (newF p) (i64 0))] rfl ⟨.inl (field_ok hm hb), trivial⟩ ?_
  refine ev_seq (ev_block (ev_rs [] rfl trivial (ev_cf rfl ?_)))
  refine ev_rs [] rfl (by repeat' (first | exact trivial | exact gd_t | exact gd_f | exact (fun _ => rfl) | intro _ | apply And.intro | assumption | exact rfl | exact gd_t (by assumption) | exact gd_f (by assumption) | exact gd_a (by assumption) (by assumption))) (ev_cond rfl (fun _ => ?_) (fun h2 => ?_))
  · exact ev_rs [] rfl trivial (ev_ret (ret2 (fz_p (PLe.refl _)) (fz_p (PLe.refl _))))
  · exfalso
    rcases h with h | h
    · rw [decide_eq_true h] at h2; cases h2
    · rw [decide_eq_true (Int.ofNat_lt.mpr h)] at h2
      cases hd : decide (many < 0) <;> rw [hd] at h2 <;> cases h2

theorem More_limit {p : Nat} (hm : MayM p) (hb : isB p = true) (r row : List Nat) (many : Int) (h : 100000 < many) (hr : r.length ≤ row.length) :
    CallSpec Tryd.pr.P Tryd.pr.G 18 [u64 p, u64s r, u64s row, i64 many] (.tup 2 (two nilS (i64 13))) := by
  refine callSpec_of Tryd.pr Tryd.func18 rfl rfl rfl fun w0 ok0 hok hG => ?_
  refine ev_rs [] rfl trivial ?_
  refine ev_rs [.tup 2 (two (newF p) (i64 0))] rfl ⟨.inl (field_ok hm hb), trivial⟩ ?_
  refine ev_seq (ev_block (ev_rs [] rfl trivial (ev_cf rfl ?_)))
  refine ev_rs [] rfl (by repeat' (first | exact trivial | exact gd_t | exact gd_f | exact (fun _ => rfl) | intro _ | apply And.intro | assumption | exact rfl | exact gd_t (by assumption) | exact gd_f (by assumption) | exact gd_a (by assumption) (by assumption))) (ev_cond rfl (fun h2 => ?_) (fun h2 => ?_))
  · exfalso
    rw [decide_eq_false (by omega), decide_eq_false (by omega)] at h2
    cases h2
  refine ev_rs [] rfl trivial (ev_cond rfl (fun _ => ?_) (fun h3 => ?_))
  · exact ev_rs [] rfl trivial (ev_ret (ret2 (fz_p (PLe.refl _)) (fz_p (PLe.refl _))))
  · exact absurd h (of_decide_eq_false h3)

theorem More_ok {p : Nat} (hm : MayM p) (hb : isB p = true) (r row : List Nat) (many : Nat) (h : many ≤ 100000) (hr : r.length ≤ row.length) (hl : row.length < 1000000) :
    CallSpec Tryd.pr.P Tryd.pr.G 18 [u64 p, u64s r, u64s row, i64 many] (.tup 2 (two (u64s (moreN p r (row.map (· % p)) many)) (i64 0))) := by
  refine callSpec_of Tryd.pr Tryd.func18 rfl rfl rfl fun w0 ok0 hok hG => ?_
  refine ev_rs [] rfl trivial ?_
  refine ev_rs [.tup 2 (two (newF p) (i64 0))] rfl ⟨.inl (field_ok hm hb), trivial⟩ ?_
  refine ev_at (α := Unit) (fun _ => True) (fun _ => [(1, .p (u64s r)), (2, .p (u64s row)), (3, .p (i64 many)), (10, .p (newF p))]) (fun _ => []) ?_ ?_
  · refine ev_block (ev_rs [] rfl trivial (ev_cf rfl ?_))
    refine ev_rs [] rfl (by repeat' (first | exact trivial | exact gd_t | exact gd_f | exact (fun _ => rfl) | intro _ | apply And.intro | assumption | exact rfl | exact gd_t (by assumption) | exact gd_f (by assumption) | exact gd_a (by assumption) (by assumption))) (ev_cond rfl (fun h2 => ?_) (fun h2 => ?_))
    · exfalso
      rw [decide_eq_false (by omega), decide_eq_false (by omega)] at h2
      cases h2
    refine ev_rs [] rfl trivial (ev_cf ?_ ?_)
    · show AV.p (PV.val (.bool (decide ((many : Int) > 100000)))) = _
      rw [decide_eq_false (by omega)]
    refine ev_skip (at0 () trivial ⟨le_0, le_0, le_0, le_0, trivial⟩)
  rintro ⟨⟩ -
  refine ev_rs [ownR row.length 1 (fun j => u64 (row.getD j 0))] rfl ?_ ?_
  · exact ⟨⟨trivial, Clone_spec row (by omega)⟩, ⟨⟨by omega, by omega⟩, by omega, by omega⟩, trivial⟩
  refine ev_at (α := Unit) (fun _ => True) (fun _ => [(1, .p (u64s r)), (3, .p (i64 many)), (10, .p (newF p)), (12, .own 43 0 row.length 1)]) (fun _ => [(43, ob64 (modK p row row.length))]) ?_ ?_
  · refine ev_rs [] rfl trivial ?_
    refine ev_block (ev_while (α := Nat) (fun i => i ≤ row.length) (fun i => [(1, .p (u64s r)), (3, .p (i64 many)), (10, .p (newF p)), (12, .own 43 0 row.length 1), (45, .p (i64 row.length)), (46, .p (i64 i))]) (fun i => [(43, ob64 (modK p row i))]) (fun i => row.length - i) 0
      (Nat.zero_le _) (wk_ob rfl (fun hd => ⟨le_refl hd _, le_refl hd _, le_refl hd _, le_o rfl, le_refl hd _, le_refl hd _, trivial⟩)) ?_)
    rintro i h1
    refine ev_rs [] rfl trivial (ev_seq (ev_cond rfl (fun h => ev_sk ?_) (fun h => ev_exit ?_)))
    · have hi : i < row.length := Int.ofNat_lt.mp (of_decide_eq_true h)
      refine ev_seq (ev_block ?_)
      have hck := length_modK p row i
      refine ev_rs [] rfl trivial ?_
      refine ev_region [u64 ((modK p row i).getD i 0 % p)] rfl ?_ ?_
      · exact ⟨(by rw [hck]; omega : i + 1 ≤ (modK p row i).length), ⟨by omega, by omega⟩, .inl (Of_spec hm _), (by rw [hck]; omega : i < (modK p row i).length), ⟨by omega, by omega⟩, trivial⟩
      refine ev_set 43 i ((modK p row i).getD i 0 % p) rfl rfl rfl (by rw [hck]; omega) ?_
      refine ev_region [] rfl trivial ⟨i + 1, hi, by dsimp only; omega, wk_ob rfl (fun hd => ⟨le_refl hd _, le_refl hd _, le_refl hd _, le_o rfl, le_refl hd _, le_n hd (congrArg (fun z => PV.val (.int .i64 z)) (wrapI _ (by omega) (by omega))), trivial⟩)⟩
    · have hi : i = row.length := by
        have := of_decide_eq_false h
        omega
      subst hi
      exact at_ob () trivial rfl (fun hd => ⟨le_refl hd _, le_refl hd _, le_refl hd _, le_o rfl, trivial⟩)
  rintro ⟨⟩ -
  have hmap := modK_all p row
  have hml := length_modK p row row.length
  refine ev_at (α := Unit) (fun _ => True) (fun _ => [(12, .own 43 0 (row.length + many) 1)]) (fun _ => [(43, ob64 (moreN p r (row.map (· % p)) many))]) ?_ ?_
  · refine ev_rs [] rfl trivial ?_
    refine ev_block (ev_while (α := Nat) (fun i => i ≤ many) (fun i => [(1, .p (u64s r)), (10, .p (newF p)), (12, .own 43 0 (row.length + i) 1), (59, .p (i64 many)), (60, .p (i64 i))]) (fun i => [(43, ob64 (moreN p r (row.map (· % p)) i))]) (fun i => many - i) 0
      (Nat.zero_le _) (wk_ob (congrArg (fun l => some (ob64 l)) hmap) (fun hd => ⟨le_refl hd _, le_refl hd _, le_o rfl, le_refl hd _, le_refl hd _, trivial⟩)) ?_)
    rintro i h1
    refine ev_rs [] rfl trivial (ev_seq (ev_cond rfl (fun h => ev_sk ?_) (fun h => ev_exit ?_)))
    · have hi : i < many := Int.ofNat_lt.mp (of_decide_eq_true h)
      refine ev_seq (ev_block ?_)
      have hck : (moreN p r (row.map (· % p)) i).length = row.length + i := by rw [length_moreN, List.length_map]
      obtain ⟨ys, hys⟩ : ∃ ys, moreN p r (row.map (· % p)) i = ys := ⟨_, rfl⟩
      have hst : moreN p r (row.map (· % p)) (i + 1) = ys ++ [sb 0 (missN p r (ys ++ [0]) ys.length) p] := by rw [← hys]; rfl
      rw [hys] at hck
      refine ev_ob 43 (ob64 ys) (congrArg (fun l => some (ob64 l)) hys) ?_
      have hl1 : (ys ++ [0]).length = ys.length + 1 := by simp
      have e1 : IntKind.wrap .i64 (((ys ++ [0]).length : Nat) - 1 : Int) = (ys.length : Int) := by rw [hl1, wrapI _ (by omega) (by omega)]; omega
      refine ev_rs [] rfl ?_ (ev_app 12 64 ys [0] rfl rfl (by rw [hck]; rfl) (by show row.length + i + 1 = _; rw [hck]; rfl) hck.symm (fun j hj => rfl) (fun j hj => ?_) ?_)
      · exact ⟨⟨by omega, hck, Nat.le_refl 1⟩, trivial⟩
      · match j, hj with
        | 0, _ => rfl
      refine ev_rs [] rfl trivial (ev_eq 14 (.p (i64 ys.length)) (congrArg (fun z => AV.p (PV.val (.int .i64 z))) e1) ?_)
      refine ev_region [u64 (missN p r (ys ++ [0]) ys.length), u64 (sb 0 (missN p r (ys ++ [0]) ys.length) p)] rfl ?_ ?_
      · exact ⟨(by rw [hl1]; omega : ys.length + 1 ≤ (ys ++ [0]).length), ⟨by omega, by rw [hl1]; omega⟩, .inl (Sb_spec hm 0 _), ⟨⟨(by omega : 0 + (ys ++ [0]).length ≤ (ys ++ [0]).length), trivial⟩, .inl (miss_spec hm r (ys ++ [0]) ys.length (by rw [hl1]; omega) (by omega) (by rw [hl1]; omega))⟩, trivial⟩
      refine ev_set 64 ys.length (sb 0 (missN p r (ys ++ [0]) ys.length) p) rfl rfl rfl (by rw [hl1]; omega) ?_
      refine ev_region [] rfl trivial ⟨i + 1, hi, by dsimp only; omega, wk_ren (i' := 64) (congrArg (fun l => some (ob64 l)) ((set_last ys _).trans hst.symm)) (fun hd => ⟨le_refl hd _, le_refl hd _, le_ren rfl ?_, le_refl hd _, le_n hd (congrArg (fun z => PV.val (.int .i64 z)) (wrapI _ (by omega) (by omega))), trivial⟩)⟩
      rw [hl1, hck]
      rfl
    · have hi : i = many := by
        have := of_decide_eq_false h
        omega
      subst hi
      exact at_ob () trivial rfl (fun hd => ⟨le_o rfl, trivial⟩)
  rintro ⟨⟩ -
  exact ev_rs [] rfl trivial (ev_ret (ret2 (fz_ob' rfl (by rw [length_moreN, List.length_map]) rfl) (fz_p (PLe.refl _))))

end
end Go.Proofs
