/- The search for a rule, walked. -/
import Derived.Test.YthgkmbeeicpmcaaDoorRec
set_option linter.unusedVariables false
namespace Go.Proofs
open Go Vinc Vinc.Num

theorem Find_no {p : Nat} (hp : p < 18446744073709551616) (h : ¬ (p < 9223372036854775808 ∧ isB p = true)) (row : PV) :
    CallSpec Tryd.pr.P Tryd.pr.G 10 [u64 p, row] (.tup 2 (two nilS (i64 14))) := by
  refine callSpec_of Tryd.pr Tryd.func10 rfl rfl rfl fun w0 ok0 hok hG => ?_
  refine ev_rs [] rfl trivial ?_
  refine ev_rs [.tup 2 (two nilP (i64 14))] rfl ⟨.inl (field_no hp h), trivial⟩ ?_
  refine ev_seq (ev_block (ev_rs [] rfl trivial (ev_ct rfl ?_)))
  exact ev_rs [] rfl trivial (ev_ret (ret2 (fz_p (PLe.refl _)) (fz_p (PLe.refl _))))

theorem Find_ok {p : Nat} (hm : MayM p) (hb : isB p = true) (row : List Nat) (hl : row.length ≤ 10000) :
    CallSpec Tryd.pr.P Tryd.pr.G 10 [u64 p, u64s row] (.tup 2 (two (u64s (findN (minv p) p row row.length).now) (i64 0))) := by
  refine callSpec_of Tryd.pr Tryd.func10 rfl rfl rfl fun w0 ok0 hok hG => ?_
  refine ev_rs [] rfl trivial ?_
  refine ev_rs [.tup 2 (two (newF p) (i64 0))] rfl ⟨.inl (field_ok hm hb), trivial⟩ ?_
  refine ev_at (α := Unit) (fun _ => True) (fun _ => [(1, .p (u64s row)), (6, .p (newF p))]) (fun _ => []) ?_ ?_
  · refine ev_block (ev_rs [] rfl trivial (ev_cf rfl ?_))
    refine ev_rs [] rfl trivial (ev_cond rfl (fun h2 => ?_) (fun h2 => ?_))
    · have := of_decide_eq_true h2
      exact absurd this (by show ¬ ((row.length : Int) > 10000); omega)
    refine ev_skip (at0 () trivial ⟨le_0, le_0, trivial⟩)
  rintro ⟨⟩ -
  refine ev_rs [] rfl trivial ?_
  refine ev_rs [u64 (1 % p)] rfl ⟨.inl (Of_spec hm _), trivial⟩ ?_
  refine ev_at (α := Unit) (fun _ => True) (fun _ => [(8, .p (u64s (findN (minv p) p row row.length).now))]) (fun _ => []) ?_ ?_
  · refine ev_rs [] rfl trivial ?_
    refine ev_block (ev_while0 (α := Nat × FS) (fun a => a.1 ≤ row.length ∧ findN (minv p) p row a.1 = a.2 ∧ FOk a.2 a.1)
      (fun a => [(1, .p (u64s row)), (6, .p (newF p)), (8, .p (u64s a.2.now)), (9, .p (u64s a.2.old)), (10, .p (u64 a.2.was)), (11, .p (i64 a.2.gap)), (35, .p (i64 row.length)), (36, .p (i64 a.1))]) (fun a => row.length - a.1) (0, ⟨[], [], 1 % p, 1⟩)
      ⟨Nat.zero_le _, rfl, rfl, Nat.le_refl 1⟩ ⟨le_0, le_0, le_p ren_nil PLe.nil, le_p ren_nil PLe.nil, le_0, le_0, le_0, le_0, trivial⟩ ?_)
    rintro ⟨n, now, old, was, gap⟩ ⟨h1, h2, h3, h4⟩
    dsimp only at h1 h2 h3 h4
    refine ev_rs [] rfl trivial (ev_seq (ev_cond rfl (fun h => ev_sk ?_) (fun h => ev_exit ?_)))
    · have hi : n < row.length := Int.ofNat_lt.mp (of_decide_eq_true h)
      have hstep : findN (minv p) p row (n + 1) = stepN (minv p) p row ⟨now, old, was, gap⟩ n := by rw [← h2]; rfl
      have hfok := stepN_ok (minv p) p row ⟨now, old, was, gap⟩ n ⟨h3, h4⟩
      have eat : IntKind.wrap .i64 ((n : Int) + 1) = ((n + 1 : Nat) : Int) := by rw [wrapI _ (by omega) (by omega)]; rfl
      have egap : IntKind.wrap .i64 ((gap : Int) + 1) = ((gap + 1 : Nat) : Int) := by rw [wrapI _ (by omega) (by omega)]; rfl
      refine ev_seq (ev_block ?_)
      refine ev_rs [] rfl trivial ?_
      refine ev_rs [u64 (missN p now row n)] rfl ⟨.inl (miss_spec hm now row n hi (by omega) (by omega)), trivial⟩ ?_
      obtain ⟨d, hd⟩ : ∃ d, missN p now row n = d := ⟨_, rfl⟩
      refine ev_n 13 d rfl (toN hd) ?_
      refine ev_seq (ev_rs [] rfl trivial (ev_cond rfl (fun h => ?_) (fun h => ev_sk ?_)))
      · have hd0 : d = 0 := Int.ofNat_inj.mp (beq_iff_eq.mp h)
        have e : stepN (minv p) p row ⟨now, old, was, gap⟩ n = ⟨now, old, was, gap + 1⟩ := by unfold stepN; rw [if_pos (hd.trans hd0)]
        rw [e] at hstep hfok
        refine ev_rs [] rfl trivial (ev_exit ?_)
        exact ev_region [] rfl trivial (round0 (n + 1, ⟨now, old, was, gap + 1⟩) ⟨hi, hstep, hfok⟩ (by dsimp only; omega) ⟨le_0, le_0, le_0, le_0, le_0, le_e (congrArg (fun z => PV.val (.int .i64 z)) egap), le_0, le_e (congrArg (fun z => PV.val (.int .i64 z)) eat), trivial⟩)
      have hd0 : ¬ d = 0 := fun e => (beq_eq_false_iff_ne.mp h) (Int.ofNat_inj.mpr e)
      refine ev_rs [.tup 2 (two (u64 (minv p was)) (i64 (wrong was p)))] rfl ⟨.inl (Inv_spec hm _), trivial⟩ ?_
      refine ev_rs [u64 (d * minv p was % p)] rfl ⟨.inl (Mul_spec hm _ _), trivial⟩ ?_
      obtain ⟨t, ht⟩ : ∃ t, d * minv p was % p = t := ⟨_, rfl⟩
      refine ev_n 16 t rfl (toN ht) ?_
      have e1 : IntKind.wrap .i64 ((gap : Int) + (old.length : Int)) = ((gap + old.length : Nat) : Int) := by rw [wrapI _ (by omega) (by omega)]; rfl
      have e2 : IntKind.wrap .i64 ((gap : Int) - 1) = ((gap - 1 : Nat) : Int) := by rw [wrapI _ (by omega) (by omega)]; omega
      have hg1 : (grownN now (gap + old.length)).length = gap + old.length ∨ (grownN now (gap + old.length)).length = now.length := by rw [length_grownN]; omega
      have hg2 : gap + old.length ≤ (grownN now (gap + old.length)).length := by rw [length_grownN]; omega
      have hnx : nextN (minv p) p d ⟨now, old, was, gap⟩ = updN p t old gap (headN p t gap (grownN now (gap + old.length))) old.length := by unfold nextN; rw [ht]
      obtain ⟨g0, hg0⟩ : ∃ g0, grownN now (gap + old.length) = g0 := ⟨_, rfl⟩
      have hhl := length_headN p t gap g0
      refine ev_rs [ownR (grownN now (gap + old.length)).length 1 (fun j => u64 ((grownN now (gap + old.length)).getD j 0))] rfl ?_ ?_
      · rw [e1]
        exact ⟨⟨trivial, grown_spec now (gap + old.length) (by omega) (by omega)⟩, trivial⟩
      refine ev_eq 17 (.own 63 0 g0.length 1) (congrArg (fun l => AV.own 63 0 (List.length l) 1) hg0) (ev_ob 63 (ob64 g0) (congrArg (fun l => some (ob64 l)) hg0) ?_)
      rw [hg0] at hnx hg1 hg2
      refine ev_rs [u64 (sb (g0.getD (gap - 1) 0) t p)] rfl ?_ ?_
      · rw [e2]
        exact ⟨(by omega : gap - 1 + 1 ≤ g0.length), ⟨by omega, by omega⟩, .inl (Sb_spec hm _ _), (by omega : gap - 1 < g0.length), ⟨by omega, by omega⟩, trivial⟩
      refine ev_set 63 (gap - 1) (sb (g0.getD (gap - 1) 0) t p) rfl (by show (IntKind.wrap .i64 ((gap : Int) - 1)).toNat = _; rw [e2]; rfl) rfl (by omega) ?_
      refine ev_at (α := Unit) (fun _ => True) (fun _ => [(1, .p (u64s row)), (6, .p (newF p)), (8, .p (u64s now)), (9, .p (u64s old)), (10, .p (u64 was)), (11, .p (i64 gap)), (12, .p (i64 n)), (13, .p (u64 d)), (17, .own 63 0 g0.length 1), (35, .p (i64 row.length)), (36, .p (i64 n))])
        (fun _ => [(63, ob64 (updN p t old gap (headN p t gap g0) old.length))]) ?_ ?_
      · refine ev_rs [] rfl trivial ?_
        refine ev_block (ev_while (α := Nat) (fun i => i ≤ old.length) (fun i => [(1, .p (u64s row)), (6, .p (newF p)), (8, .p (u64s now)), (9, .p (u64s old)), (10, .p (u64 was)), (11, .p (i64 gap)), (12, .p (i64 n)), (13, .p (u64 d)), (16, .p (u64 t)), (17, .own 63 0 g0.length 1), (35, .p (i64 row.length)), (36, .p (i64 n)), (77, .p (i64 old.length)), (78, .p (i64 i))])
          (fun i => [(63, ob64 (updN p t old gap (headN p t gap g0) i))]) (fun i => old.length - i) 0
          (Nat.zero_le _) (wk_ob rfl (fun hd => ⟨le_refl hd _, le_refl hd _, le_refl hd _, le_refl hd _, le_refl hd _, le_refl hd _, le_refl hd _, le_refl hd _, le_refl hd _, le_o rfl, le_refl hd _, le_refl hd _, le_refl hd _, le_refl hd _, trivial⟩)) ?_)
        rintro i h5
        refine ev_rs [] rfl trivial (ev_seq (ev_cond rfl (fun h => ev_sk ?_) (fun h => ev_exit ?_)))
        · have hio : i < old.length := Int.ofNat_lt.mp (of_decide_eq_true h)
          refine ev_seq (ev_block ?_)
          have e3 : IntKind.wrap .i64 ((gap : Int) + (i : Int)) = ((gap + i : Nat) : Int) := by rw [wrapI _ (by omega) (by omega)]; rfl
          have hul : (updN p t old gap (headN p t gap g0) i).length = g0.length := by rw [length_updN, hhl]
          refine ev_rs [] rfl trivial ?_
          refine ev_draw [u64 (t * old.getD i 0 % p), u64 (sb ((updN p t old gap (headN p t gap g0) i).getD (gap + i) 0) (t * old.getD i 0 % p) p)] (by kernel_rfl) rfl rfl ?_ ?_
          · rw [e3]
            exact ⟨(by omega : gap + i + 1 ≤ (updN p t old gap (headN p t gap g0) i).length), ⟨by omega, by omega⟩, .inl (Sb_spec hm _ _), .inl (Mul_spec hm _ _), hio, ⟨by omega, by omega⟩, (by omega : gap + i < (updN p t old gap (headN p t gap g0) i).length), ⟨by omega, by omega⟩, trivial⟩
          refine ev_set 63 (gap + i) (sb ((updN p t old gap (headN p t gap g0) i).getD (gap + i) 0) (t * old.getD i 0 % p) p) rfl (by show (IntKind.wrap .i64 ((gap : Int) + (i : Int))).toNat = _; rw [e3]; rfl) rfl (by omega) ?_
          exact ev_region [] rfl trivial ⟨i + 1, hio, by dsimp only; omega, wk_ob rfl (fun hd => ⟨le_refl hd _, le_refl hd _, le_refl hd _, le_refl hd _, le_refl hd _, le_refl hd _, le_refl hd _, le_refl hd _, le_refl hd _, le_o rfl, le_refl hd _, le_refl hd _, le_refl hd _, le_n hd (congrArg (fun z => PV.val (.int .i64 z)) (wrapI _ (by omega) (by omega))), trivial⟩)⟩
        · have hio : i = old.length := by
            have := of_decide_eq_false h
            omega
          subst hio
          exact at_ob () trivial rfl (fun hd => ⟨le_refl hd _, le_refl hd _, le_refl hd _, le_refl hd _, le_refl hd _, le_refl hd _, le_refl hd _, le_refl hd _, le_o rfl, le_refl hd _, le_refl hd _, trivial⟩)
      rintro ⟨⟩ -
      obtain ⟨n2, hn2⟩ : ∃ n2, updN p t old gap (headN p t gap g0) old.length = n2 := ⟨_, rfl⟩
      have hn2l : g0.length = n2.length := by rw [← hn2, length_updN, hhl]
      have hnx2 := hnx.trans hn2
      refine ev_eq 17 (.own 63 0 n2.length 1) (congrArg (fun l => AV.own 63 0 l 1) hn2l) (ev_ob 63 (ob64 n2) (congrArg (fun l => some (ob64 l)) hn2) ?_)
      have e4 : IntKind.wrap .i64 (2 * (now.length : Int)) = ((2 * now.length : Nat) : Int) := by rw [wrapI _ (by omega) (by omega)]; rfl
      have e5 : IntKind.wrap .i64 (IntKind.wrap .i64 ((n : Int) + 1) - (now.length : Int)) = ((n + 1 - now.length : Nat) : Int) := by rw [eat, wrapI _ (by omega) (by omega)]; omega
      refine ev_seq (ev_rs [] rfl trivial (ev_cond rfl (fun h => ?_) (fun h => ev_sk ?_)))
      · have hgt : n < 2 * now.length := by
          have := of_decide_eq_true h
          rw [e4] at this
          omega
        have e : stepN (minv p) p row ⟨now, old, was, gap⟩ n = ⟨n2, old, was, gap + 1⟩ := by
          unfold stepN
          rw [if_neg (fun e => hd0 (hd.symm.trans e)), if_pos hgt]
          show FS.mk (nextN (minv p) p (missN p now row n) _) _ _ _ = _
          rw [hd, hnx2]
        rw [e] at hstep hfok
        refine ev_rs [] rfl trivial ?_
        refine ev_rs [] rfl trivial (ev_exit ?_)
        exact ev_region [] rfl trivial (round0 (n + 1, ⟨n2, old, was, gap + 1⟩) ⟨hi, hstep, hfok⟩ (by dsimp only; omega) ⟨le_0, le_0, le_fz' rfl rfl rfl, le_0, le_0, le_e (congrArg (fun z => PV.val (.int .i64 z)) egap), le_0, le_e (congrArg (fun z => PV.val (.int .i64 z)) eat), trivial⟩)
      · have hgt : ¬ n < 2 * now.length := by
          have := of_decide_eq_false h
          rw [e4] at this
          omega
        have e : stepN (minv p) p row ⟨now, old, was, gap⟩ n = ⟨grownN n2 (n + 1 - now.length), now, d, 1⟩ := by
          unfold stepN
          rw [if_neg (fun e => hd0 (hd.symm.trans e)), if_neg hgt]
          show FS.mk (grownN (nextN (minv p) p (missN p now row n) _) _) _ (missN p now row n) _ = _
          rw [hd, hnx2]
        rw [e] at hstep hfok
        refine ev_rs [ownR (grownN n2 (n + 1 - now.length)).length 1 (fun j => u64 ((grownN n2 (n + 1 - now.length)).getD j 0))] rfl ?_ ?_
        · rw [e5]
          exact ⟨⟨⟨(by omega : 0 + n2.length ≤ n2.length), trivial⟩, grown_spec n2 (n + 1 - now.length) (by omega) (by omega)⟩, trivial⟩
        refine ev_region [] rfl trivial ?_
        exact ev_region [] rfl trivial (round0 (n + 1, ⟨grownN n2 (n + 1 - now.length), now, d, 1⟩) ⟨hi, hstep, hfok⟩ (by dsimp only; omega) ⟨le_0, le_0, le_fz' rfl rfl rfl, le_0, le_0, le_0, le_0, le_e (congrArg (fun z => PV.val (.int .i64 z)) eat), trivial⟩)
    · have hi : n = row.length := by
        have := of_decide_eq_false h
        dsimp only at this
        omega
      subst hi
      exact at0 () trivial ⟨le_e (congrArg (fun (s : FS) => u64s s.now) h2.symm), trivial⟩
  rintro ⟨⟩ -
  exact ev_rs [] rfl trivial (ev_ret (ret2 (fz_p (PLe.refl _)) (fz_p (PLe.refl _))))

end Go.Proofs
