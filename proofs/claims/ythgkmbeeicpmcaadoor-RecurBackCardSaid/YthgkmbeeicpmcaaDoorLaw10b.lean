/- Whether a row goes on by a rule, and what it goes on to: the law, walked. -/
import Derived.Test.YthgkmbeeicpmcaaDoorRef10
set_option linter.unusedVariables false
namespace Go.Proofs
open Go Vinc Vinc.Num

theorem More_any {p : Nat} (hm : MayM p) (hb : isB p = true) (r row : List Nat) (many : Int) (hmx : many ≤ 100000 ∨ 100000 < many) (hl : row.length < 1000000) :
    ∃ (l : List Nat) (e : Int), CallSpec Tryd.pr.P Tryd.pr.G 18 [u64 p, u64s r, u64s row, i64 many] (.tup 2 (two (u64s l) (i64 e))) := by
  by_cases h1 : many < 0 ∨ row.length < r.length
  · exact ⟨[], 1, callSpec_res (PLe.two2 PLe.nil (PLe.refl _)) (More_arg hm hb r row many h1)⟩
  · by_cases h2 : 100000 < many
    · exact ⟨[], 13, callSpec_res (PLe.two2 PLe.nil (PLe.refl _)) (More_limit hm hb r row many h2 (by omega))⟩
    · obtain ⟨n, rfl⟩ := Int.eq_ofNat_of_zero_le (by omega : 0 ≤ many)
      exact ⟨_, _, More_ok hm hb r row n (by omega) (by omega) hl⟩

theorem bool3 : ∀ a b c d : Bool, (bif (bif a then true else b) then true else (bif c then d else false)) = false → a = false ∧ b = false ∧ (c = true → d = false) := by decide

theorem RecurHolds_spec (p : Nat) (r row : List Nat) (many : Int) (hp : p < 18446744073709551616) (hwr : W64 r) (hw : W64 row) :
    CallSpec Tryd.pr.P Tryd.pr.G 6 [u64 p, .agg 2 (two (u64s r) (u64s row)), i64 many] (Vinc.bool true) := by
  refine callSpec_of Tryd.pr Tryd.func6 rfl rfl rfl fun w0 ok0 hok hG => ?_
  refine ev_rs [] rfl trivial ?_
  refine ev_rs [] rfl (by repeat' (first | exact trivial | exact gd_t | exact gd_f | exact leb rfl | exact Int.le_refl _ | exact (by decide : (0 : Int) < ((2 : Nat) : Int)) | exact (by decide : (0 : Int) ≤ 1) | exact (by decide : (1 : Int) < ((2 : Nat) : Int)) | exact (fun _ => rfl) | intro _ | apply And.intro | assumption | exact rfl | exact gd_t (by assumption) | exact gd_f (by assumption) | exact gd_a (by assumption) (by assumption))) ?_
  refine ev_rs [] rfl (by repeat' (first | exact trivial | exact gd_t | exact gd_f | exact leb rfl | exact Int.le_refl _ | exact (by decide : (0 : Int) < ((2 : Nat) : Int)) | exact (by decide : (0 : Int) ≤ 1) | exact (by decide : (1 : Int) < ((2 : Nat) : Int)) | exact (fun _ => rfl) | intro _ | apply And.intro | assumption | exact rfl | exact gd_t (by assumption) | exact gd_f (by assumption) | exact gd_a (by assumption) (by assumption))) ?_
  refine ev_seq (ev_rs [] rfl (by repeat' (first | exact trivial | exact gd_t | exact gd_f | exact (fun _ => rfl) | intro _ | apply And.intro | assumption | exact rfl | exact gd_t (by assumption) | exact gd_f (by assumption) | exact gd_a (by assumption) (by assumption))) (ev_cond rfl (fun h => ?_) (fun h => ev_sk ?_)))
  · exact ev_rs [Vinc.bool true] rfl ⟨.inl awake_spec, trivial⟩ (ev_ret (ret1 (fz_p (PLe.refl _))))
  obtain ⟨g1, g2, g3⟩ := bool3 _ _ _ _ h
  have hr : r.length ≤ 60 := by have := of_decide_eq_false g1; omega
  have hrow : row.length ≤ 60 := by have := of_decide_eq_false g2; omega
  have hmany : many ≤ 100 ∨ 100000 < many := by
    by_cases h1 : many > 100
    · have := of_decide_eq_false (g3 (decide_eq_true h1)); omega
    · omega
  refine ev_wk (σ' := mk [(0, .p (u64 p)), (2, .p (i64 many)), (7, .p (u64s r)), (8, .p (u64s row))] []) (wk (fun i => i) ⟨le_0, le_0, le_0, le_0, trivial⟩ trivial rfl) ?_
  by_cases hA : Asked p
  · have hm := asked_may hA
    have hp0 := hm.1
    have hb := isB_asked hA
    have hRH := RefHolds_spec hm r row (by omega) (by omega) hw
    rw [← holds_ref (by omega) r row] at hRH
    have fin9 : ∀ x : Bool, (bif ((0 : Int) != 0) then true else !(x == x)) = false := by decide
    by_cases h1 : many < 0 ∨ row.length < r.length
    · refine ev_rs [.tup 2 (two (Vinc.bool (holdsB p r row)) (i64 0))] rfl ⟨.inl (Holds_ok hm hb r row (by omega) (by omega)), trivial⟩ ?_
      refine ev_rs [.tup 2 (two nilS (i64 1))] rfl ⟨.inl (More_arg hm hb r row many h1), trivial⟩ ?_
      refine ev_seq (ev_rs [Vinc.bool true] rfl ⟨.inl (LawPrime_t hA), trivial⟩ (ev_cf rfl (ev_sk ?_)))
      refine ev_seq (ev_rs [Vinc.bool (holdsB p r row)] rfl (by repeat' (first | exact trivial | exact gd_t | exact gd_f | exact .inl hRH | exact (fun _ => rfl) | intro _ | apply And.intro | assumption | exact rfl | exact gd_t (by assumption) | exact gd_f (by assumption) | exact gd_a (by assumption) (by assumption))) (ev_cf (congrArg (fun b => AV.p (PV.val (.bool b))) (fin9 _)) (ev_sk ?_)))
      refine ev_seq (ev_rs [] rfl (by repeat' (first | exact trivial | exact gd_t | exact gd_f | exact (fun _ => rfl) | intro _ | apply And.intro | assumption | exact rfl | exact gd_t (by assumption) | exact gd_f (by assumption) | exact gd_a (by assumption) (by assumption))) (ev_cond rfl (fun h => ?_) (fun h => ?_)))
      · exact ev_rs [Vinc.bool true] rfl (by repeat' (first | exact trivial | exact gd_t | exact gd_f | exact .inl awake_spec | exact (fun _ => rfl) | intro _ | apply And.intro | assumption | exact rfl | exact gd_t (by assumption) | exact gd_f (by assumption) | exact gd_a (by assumption) (by assumption))) (ev_ret (ret1 (fz_p (PLe.refl _))))
      · exfalso
        rcases h1 with h1 | h1
        · rw [decide_eq_true h1] at h; cases h
        · rw [decide_eq_true (Int.ofNat_lt.mpr h1)] at h
          cases hd : decide (many < 0) <;> rw [hd] at h <;> cases h
    have d1 : decide (many < 0) = false := decide_eq_false (by omega)
    have d2 : decide ((row.length : Int) < (r.length : Int)) = false := decide_eq_false (by omega)
    have d3 : (bif decide (many < 0) then true else decide ((row.length : Int) < (r.length : Int))) = false := by rw [d1, d2]; rfl
    by_cases h2 : 100000 < many
    · refine ev_rs [.tup 2 (two (Vinc.bool (holdsB p r row)) (i64 0))] rfl ⟨.inl (Holds_ok hm hb r row (by omega) (by omega)), trivial⟩ ?_
      refine ev_rs [.tup 2 (two nilS (i64 13))] rfl ⟨.inl (More_limit hm hb r row many h2 (by omega)), trivial⟩ ?_
      refine ev_seq (ev_rs [Vinc.bool true] rfl ⟨.inl (LawPrime_t hA), trivial⟩ (ev_cf rfl (ev_sk ?_)))
      refine ev_seq (ev_rs [Vinc.bool (holdsB p r row)] rfl (by repeat' (first | exact trivial | exact gd_t | exact gd_f | exact .inl hRH | exact (fun _ => rfl) | intro _ | apply And.intro | assumption | exact rfl | exact gd_t (by assumption) | exact gd_f (by assumption) | exact gd_a (by assumption) (by assumption))) (ev_cf (congrArg (fun b => AV.p (PV.val (.bool b))) (fin9 _)) (ev_sk ?_)))
      refine ev_seq (ev_rs [] rfl (by repeat' (first | exact trivial | exact gd_t | exact gd_f | exact (fun _ => rfl) | intro _ | apply And.intro | assumption | exact rfl | exact gd_t (by assumption) | exact gd_f (by assumption) | exact gd_a (by assumption) (by assumption))) (ev_cf (congrArg (fun b => AV.p (PV.val (.bool b))) d3) (ev_sk ?_)))
      refine ev_seq (ev_rs [] rfl trivial (ev_ct (congrArg (fun b => AV.p (PV.val (.bool b))) (decide_eq_true h2)) ?_))
      exact ev_rs [Vinc.bool true] rfl (by repeat' (first | exact trivial | exact gd_t | exact gd_f | exact .inl awake_spec | exact (fun _ => rfl) | intro _ | apply And.intro | assumption | exact rfl | exact gd_t (by assumption) | exact gd_f (by assumption) | exact gd_a (by assumption) (by assumption))) (ev_ret (ret1 (fz_p (PLe.refl _))))
    · obtain ⟨n, rfl⟩ := Int.eq_ofNat_of_zero_le (by omega : 0 ≤ many)
      obtain ⟨L, hL⟩ : ∃ L, moreN p r (row.map (· % p)) n = L := ⟨_, rfl⟩
      have hM := More_ok hm hb r row n (by omega) (by omega) (by omega)
      have hRM := RefMore_spec hm r row n (by omega) (by omega) (by omega)
      have hLl : L.length = row.length + n := by rw [← hL, length_moreN, List.length_map]
      rw [← more_ref (by omega) r (row.map (· % p)) (by rw [List.length_map]; omega) n] at hRM
      rw [hL] at hM hRM
      have hS := Same_spec L L (by omega) (by omega)
      rw [decide_eq_true rfl] at hS
      refine ev_rs [.tup 2 (two (Vinc.bool (holdsB p r row)) (i64 0))] rfl ⟨.inl (Holds_ok hm hb r row (by omega) (by omega)), trivial⟩ ?_
      refine ev_rs [.tup 2 (two (u64s L) (i64 0))] rfl ⟨.inl hM, trivial⟩ ?_
      refine ev_seq (ev_rs [Vinc.bool true] rfl ⟨.inl (LawPrime_t hA), trivial⟩ (ev_cf rfl (ev_sk ?_)))
      refine ev_seq (ev_rs [Vinc.bool (holdsB p r row)] rfl (by repeat' (first | exact trivial | exact gd_t | exact gd_f | exact .inl hRH | exact (fun _ => rfl) | intro _ | apply And.intro | assumption | exact rfl | exact gd_t (by assumption) | exact gd_f (by assumption) | exact gd_a (by assumption) (by assumption))) (ev_cf (congrArg (fun b => AV.p (PV.val (.bool b))) (fin9 _)) (ev_sk ?_)))
      refine ev_seq (ev_rs [] rfl (by repeat' (first | exact trivial | exact gd_t | exact gd_f | exact (fun _ => rfl) | intro _ | apply And.intro | assumption | exact rfl | exact gd_t (by assumption) | exact gd_f (by assumption) | exact gd_a (by assumption) (by assumption))) (ev_cf (congrArg (fun b => AV.p (PV.val (.bool b))) d3) (ev_sk ?_)))
      refine ev_seq (ev_rs [] rfl trivial (ev_cf (congrArg (fun b => AV.p (PV.val (.bool b))) (decide_eq_false h2)) (ev_sk ?_)))
      exact ev_rs [u64s L, Vinc.bool true, Vinc.bool true] rfl (by repeat' (first | exact trivial | exact gd_t | exact gd_f | exact .inl hRM | exact .inl hS | exact .inl awake_spec | exact (fun _ => rfl) | intro _ | apply And.intro | assumption | exact rfl | exact gd_t (by assumption) | exact gd_f (by assumption) | exact gd_a (by assumption) (by assumption))) (ev_ret (ret1 (fz_p (PLe.refl _))))
  by_cases hB : p < 9223372036854775808 ∧ isB p = true
  · have hbig := told_big hA hB.2
    have hm : MayM p := ⟨by omega, hB.1⟩
    obtain ⟨l, e, hM⟩ := More_any hm hB.2 r row many (by omega) (by omega)
    refine ev_rs [.tup 2 (two (Vinc.bool (holdsB p r row)) (i64 0))] rfl ⟨.inl (Holds_ok hm hB.2 r row (by omega) (by omega)), trivial⟩ ?_
    refine ev_rs [.tup 2 (two (u64s l) (i64 e))] rfl ⟨.inl hM, trivial⟩ ?_
    refine ev_seq (ev_rs [Vinc.bool false] rfl ⟨.inl (LawPrime_f hA), trivial⟩ (ev_ct rfl ?_))
    refine ev_rs [Vinc.bool true] rfl (by repeat' (first | exact trivial | exact gd_t | exact gd_f | exact .inl awake_spec | exact (fun _ => rfl) | intro _ | apply And.intro | assumption | exact rfl | exact gd_t (by assumption) | exact gd_f (by assumption) | exact gd_a (by assumption) (by assumption))) (ev_ret (ret1 (fz_p (PLe.of_eq (congrArg Vinc.bool ?_)))))
    have hd1 : decide ((p : Int) > 100000) = true := decide_eq_true (by omega)
    have hd2 : decide ((p : Int) < 9223372036854775808) = true := decide_eq_true (by omega)
    show (bif (bif (bif decide ((p : Int) > 100000) then decide ((p : Int) < 9223372036854775808) else false) then true else _) then true else false) = true
    rw [hd1, hd2]
    rfl
  · refine ev_rs [.tup 2 (two (Vinc.bool false) (i64 14))] rfl ⟨.inl (Holds_no hp hB _ _), trivial⟩ ?_
    refine ev_rs [.tup 2 (two nilS (i64 14))] rfl ⟨.inl (More_no hp hB _ _ _), trivial⟩ ?_
    refine ev_seq (ev_rs [Vinc.bool false] rfl ⟨.inl (LawPrime_f hA), trivial⟩ (ev_ct rfl ?_))
    refine ev_rs [Vinc.bool true] rfl (by repeat' (first | exact trivial | exact gd_t | exact gd_f | exact .inl awake_spec | exact (fun _ => rfl) | intro _ | apply And.intro | assumption | exact rfl | exact gd_t (by assumption) | exact gd_f (by assumption) | exact gd_a (by assumption) (by assumption))) (ev_ret (ret1 (fz_p (PLe.of_eq (congrArg Vinc.bool ?_)))))
    have key : ∀ a b : Bool, (bif (bif (bif a then b else false) then true else true) then true else false) = true := by decide
    exact key _ _

end Go.Proofs
