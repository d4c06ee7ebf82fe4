/- Part 5 of the proof's texts, joined: R4, R5, R6, R7, R8. -/
import Derived.Test.YtmfmgcnliihidaaDoorB4

/- roots, walked: all roots. -/
set_option linter.unusedVariables false
namespace Go.Proofs
open Go Vinc Vinc.Num

theorem Roots_bad {p : Nat} {a seeds : List Nat} {e : Nat} (he : e ≠ 0) (h : CallSpec Tryd.pr.P Tryd.pr.G 9 [u64 p, u64s a] (.tup 2 (two nilS (i64 e)))) : CallSpec Tryd.pr.P Tryd.pr.G 8 [u64 p, u64s a, u64s seeds] (.tup 2 (two nilS (i64 e))) := by
  have hc : ((e : Int) != 0) = true := bne_iff_ne.mpr fun h => he (Int.ofNat_inj.mp h)
  refine callSpec_of Tryd.pr Tryd.func8 rfl rfl rfl fun w0 ok0 hok hG => ?_
  refine ev_rs [] rfl trivial ?_
  refine ev_rs [.tup 2 (two nilS (i64 e))] rfl ⟨.inl h, trivial⟩ ?_
  refine ev_seq (ev_rs [] rfl trivial (ev_ct (congrArg (fun z => AV.p (PV.val (.bool z))) hc) ?_))
  exact ev_rs [] rfl trivial (ev_ret (ret2 (fz_p (PLe.refl _)) (fz_p (PLe.refl _))))

theorem Roots_two (hm : MayM 2) (hb : isB 2 = true) (hf : FdP 2 (minv 2)) (a seeds : List Nat) (hl : a.length ≤ 500) (h0 : 0 < (normN 2 a).length) : CallSpec Tryd.pr.P Tryd.pr.G 8 [u64 2, u64s a, u64s seeds] (.tup 2 (two (u64s (rootsN 2 a)) (i64 0))) := by
  refine callSpec_of Tryd.pr Tryd.func8 rfl rfl rfl fun w0 ok0 hok hG => ?_
  refine ev_rs [] rfl trivial ?_
  refine ev_rs [.tup 2 (two (u64s (prodF 2 (rootsN 2 a))) (i64 0))] rfl ⟨.inl (Linear_ok hm hb hf a hl h0), trivial⟩ ?_
  refine ev_seq (ev_rs [] rfl trivial (ev_cf rfl (ev_sk ?_)))
  refine ev_rs [.tup 3 (three (polyF 2) (newF 2) (i64 0))] rfl ⟨.inl (RtFields_ok hm hb), trivial⟩ ?_
  refine ev_seq (ev_rs [] rfl (by repeat' (first | exact trivial | exact gd_t | exact gd_f | exact (fun _ => rfl) | intro _ | apply And.intro | assumption | exact rfl | exact gd_t (by assumption) | exact gd_f (by assumption) | exact gd_a (by assumption) (by assumption) | exact gd_b (by assumption) (by assumption))) (ev_ct rfl ?_))
  exact ev_rs [u64s (rootsN 2 a)] rfl ⟨.inl (small_spec hm a (by omega)), trivial⟩ (ev_ret (ret2 (fz_p (PLe.refl _)) (fz_p (PLe.refl _))))

set_option maxHeartbeats 4000000 in
theorem Roots_any {p : Nat} (hm : MayM p) (hb : isB p = true) (hf : FdP p (minv p)) (h2 : p ≠ 2) (a seeds : List Nat) (hl : a.length ≤ 500) (h0 : 0 < (normN p a).length) (hsl : seeds.length < 100000)
    (hsort : ∀ xs : List Nat, xs.Perm (rootsN p a) → CallSpecX Tryd.pr.P Tryd.pr.G 29 [.own 20 0 xs.length 1] [(20, ob64 xs)] [(20, ob64 (sortN xs))] (.p (.val (.tuple #[])))) (res : PV)
    (hr1 : (∀ T ∈ partsP p (rootsN p a) seeds seeds.length, T.length ≤ 1) → res = .tup 2 (two (u64s (rootsN p a)) (i64 0)))
    (hr2 : (∃ T ∈ partsP p (rootsN p a) seeds seeds.length, 1 < T.length) → res = .tup 2 (two nilS (i64 12))) :
    CallSpec Tryd.pr.P Tryd.pr.G 8 [u64 p, u64s a, u64s seeds] res := by
  have hp := hf.pos
  have hp1 := hf.prime.1
  have hbl : ∀ Q : List Nat, (prodF p Q).length = Q.length + 1 := fun Q => (prodF_len hp1 Q).1
  have hbn : ∀ Q : List Nat, normN p (prodF p Q) = prodF p Q := fun Q => (Nz.prodF hp1 Q).norm_id hp
  have hln := length_normN p a
  have hLin := Linear_ok hm hb hf a hl h0
  obtain ⟨R, hR⟩ : ∃ R, rootsN p a = R := ⟨_, rfl⟩
  have hRl : R.length < 500 := by
    rw [← hR, ← rootsN_norm hp]
    have := rootsN_len hf (Nz.norm hp a) h0
    omega
  have hRd : Dist p R := by rw [← hR]; exact rootsN_dist p a
  have hRlt : ∀ x ∈ R, x < p := fun x hx => by rw [← hR] at hx; exact (mem_rootsN.mp hx).1
  have hRs : ∀ l : List Nat, l.Perm R → sortN l = R := fun l h => by rw [← hR] at h ⊢; exact rootsN_sort h
  rw [hR] at hLin hsort hr1 hr2
  obtain ⟨Q, hQ⟩ : ∃ Q : Nat → List (List Nat), Q = fun i => (partsP p R seeds i).map (prodF p) := ⟨_, rfl⟩
  have hQl : ∀ i, (Q i).length = (partsP p R seeds i).length := fun i => by rw [hQ]; exact List.length_map _
  have hQb : ∀ i, (Q i).length ≤ 500 := fun i => by rw [hQl]; have := parts_bound (p := p) (R := R) (seeds := seeds) i; omega
  have hQ0 : Q 0 = [prodF p R] := by rw [hQ]; rfl
  have hQg : ∀ i k, k < (Q i).length → (Q i).getD k [] = prodF p ((partsP p R seeds i).getD k []) := fun i k hk => by
    rw [hQl] at hk
    rw [hQ]
    exact getD_mapP _ _ hk
  have hPl : ∀ i k, k < (Q i).length → ((partsP p R seeds i).getD k []).length < 500 := fun i k hk => by
    rw [hQl] at hk
    have := (parts_sub (getD_mem hk)).length_le
    omega
  have hc2 : ((p : Int) == 2) = false := eq2_f h2
  refine callSpec_of Tryd.pr Tryd.func8 rfl rfl rfl fun w0 ok0 hok hG => ?_
  refine ev_rs [] rfl trivial ?_
  refine ev_rs [.tup 2 (two (u64s (prodF p R)) (i64 0))] rfl ⟨.inl hLin, trivial⟩ ?_
  refine ev_seq (ev_rs [] rfl trivial (ev_cf rfl (ev_sk ?_)))
  refine ev_rs [.tup 3 (three (polyF p) (newF p) (i64 0))] rfl ⟨.inl (RtFields_ok hm hb), trivial⟩ ?_
  refine ev_seq (ev_rs [] rfl (by repeat' (first | exact trivial | exact gd_t | exact gd_f | exact (fun _ => rfl) | intro _ | apply And.intro | assumption | exact rfl | exact gd_t (by assumption) | exact gd_f (by assumption) | exact gd_a (by assumption) (by assumption) | exact gd_b (by assumption) (by assumption))) (ev_cf (congrArg (fun z => AV.p (PV.val (.bool z))) hc2) (ev_sk ?_)))
  refine ev_rs [] rfl (by repeat' (first | exact trivial | exact gd_t | exact gd_f | exact (fun _ => rfl) | intro _ | apply And.intro | assumption | exact rfl | exact gd_t (by assumption) | exact gd_f (by assumption) | exact gd_a (by assumption) (by assumption) | exact gd_b (by assumption) (by assumption))) (ev_obs 49 (obP [prodF p R]) rfl rfl (fun j hj => ?_) ?_)
  · match j, hj with
    | 0, _ => rfl
  refine ev_at (α := Unit) (fun _ => True) (fun _ => [(10, .p (polyF p)), (11, .p (newF p)), (12, .own 12 0 (Q seeds.length).length 1)]) (fun _ => [(12, obP (Q seeds.length))]) ?_ ?_
  · refine ev_rs [] rfl trivial ?_
    refine ev_block (ev_while (α := Nat) (fun i => i ≤ seeds.length) (fun i => [(10, .p (polyF p)), (11, .p (newF p)), (12, .own 12 0 (Q i).length 1), (50, .p (u64s seeds)), (51, .p (i64 seeds.length)), (52, .p (i64 i))]) (fun i => [(12, obP (Q i))]) (fun i => seeds.length - i) 0
      (Nat.zero_le _) (wk_P 49 (by rw [hQ0]; rfl) (fun hd => ⟨le_refl hd _, le_refl hd _, le_r1 rfl (by rw [hQ0]; rfl), le_refl hd _, le_refl hd _, le_refl hd _, trivial⟩)) ?_)
    rintro i hi0
    refine ev_rs [] rfl trivial ?_
    refine ev_seq (ev_cond rfl (fun h => ev_sk ?_) (fun h => ev_exit ?_))
    · have hi : i < seeds.length := Int.ofNat_lt.mp (of_decide_eq_true h)
      have i0 : (0 : Int) ≤ (i : Int) := by omega
      have i1 : (i : Int) < (seeds.length : Int) := by omega
      obtain ⟨Y, hY⟩ : ∃ Y : Nat → List (List Nat), Y = fun k => (nextP (hiB p (seeds.getD i 0)) (partsP p R seeds i) k).map (prodF p) := ⟨_, rfl⟩
      have hYl : ∀ k, k ≤ (Q i).length → (Y k).length ≤ 500 := fun k hk => by
        rw [hQl] at hk
        rw [hY]
        dsimp only
        rw [List.length_map]
        have := nextP_bound (p := p) (R := R) (seeds := seeds) hk
        omega
      have hY0 : Y 0 = [] := by rw [hY]; rfl
      have hYn : Y (Q i).length = Q (i + 1) := by rw [hQl, hY, hQ]; rfl
      have hYs : ∀ k, Y (k + 1) = Y k ++ (stepP (hiB p (seeds.getD i 0)) ((partsP p R seeds i).getD k [])).map (prodF p) := fun k => by
        rw [hY]
        exact List.map_append
      refine ev_seq (ev_block ?_)
      refine ev_rs [] rfl (by repeat' (first | exact trivial | exact gd_t | exact gd_f | exact hi | exact i0 | exact i1 | exact (fun _ => rfl) | intro _ | apply And.intro | assumption | exact rfl | exact gd_t (by assumption) | exact gd_f (by assumption) | exact gd_a (by assumption) (by assumption) | exact gd_b (by assumption) (by assumption))) ?_
      refine ev_rs [] rfl trivial (ev_nilob 15 15 (obP []) rfl rfl rfl ?_)
      refine ev_at (α := Unit) (fun _ => True) (fun _ => [(10, .p (polyF p)), (11, .p (newF p)), (12, .own 12 0 (Q i).length 1), (15, .own 15 0 (Q (i + 1)).length 1), (50, .p (u64s seeds)), (51, .p (i64 seeds.length)), (52, .p (i64 i))]) (fun _ => [(12, obP (Q i)), (15, obP (Q (i + 1)))]) ?_ ?_
      · refine ev_rs [] rfl trivial ?_
        refine ev_block (ev_while (α := Nat) (fun k => k ≤ (Q i).length) (fun k => [(10, .p (polyF p)), (11, .p (newF p)), (12, .own 12 0 (Q i).length 1), (14, .p (u64 (seeds.getD i 0))), (15, .own 15 0 (Y k).length 1), (50, .p (u64s seeds)), (51, .p (i64 seeds.length)), (52, .p (i64 i)), (56, .own 12 0 (Q i).length 1), (57, .p (i64 (Q i).length)), (58, .p (i64 k))]) (fun k => [(12, obP (Q i)), (15, obP (Y k))]) (fun k => (Q i).length - k) 0
          (Nat.zero_le _) (wk_P2 12 15 rfl rfl rfl (by rw [hY0]; rfl) (fun hd => ⟨le_refl hd _, le_refl hd _, le_r2a rfl rfl, le_refl hd _, le_r2b rfl rfl (by rw [hY0]; rfl), le_refl hd _, le_refl hd _, le_refl hd _, le_r2a rfl rfl, le_refl hd _, le_refl hd _, trivial⟩)) ?_)
        rintro k hk0
        have hQbi := hQb i
        refine ev_rs [] rfl trivial ?_
        refine ev_seq (ev_cond rfl (fun h => ev_sk ?_) (fun h => ev_exit ?_))
        · have hk : k < (Q i).length := Int.ofNat_lt.mp (of_decide_eq_true h)
          have k0 : (0 : Int) ≤ (k : Int) := by omega
          have k1 : (k : Int) < ((Q i).length : Int) := by omega
          have hPg := hQg i k hk
          have hPlen := hPl i k hk
          have hkP : k < (partsP p R seeds i).length := by rw [← hQl]; exact hk
          have hPd : Dist p ((partsP p R seeds i).getD k []) := parts_dist hRd (getD_mem hkP)
          have hYk := hYl k hk0
          have hYk1 := hYl (k + 1) hk
          have hst := hYs k
          obtain ⟨P, hP⟩ : ∃ P, (partsP p R seeds i).getD k [] = P := ⟨_, rfl⟩
          rw [hP] at hPg hPlen hPd hst
          obtain ⟨b, hbk⟩ : ∃ b, (Q i).getD k [] = b := ⟨_, rfl⟩
          have hbP : b = prodF p P := by rw [← hbk, hPg]
          have hDg := Deg_spec hm b (by rw [hbP, hbl]; omega)
          rw [hbP, hbn, hbl, ← hbP] at hDg
          have hkw : IntKind.wrap .i64 ((k : Int) + 1) = ((k + 1 : Nat) : Int) := wrapI _ (by omega) (by omega)
          refine ev_seq (ev_block ?_)
          refine ev_rs [] rfl (by repeat' (first | exact trivial | exact gd_t | exact gd_f | exact hk | exact k0 | exact k1 | exact (fun _ => rfl) | intro _ | apply And.intro | assumption | exact rfl | exact gd_t (by assumption) | exact gd_f (by assumption) | exact gd_a (by assumption) (by assumption) | exact gd_b (by assumption) (by assumption))) ?_
          refine ev_eq 17 (.p (u64s b)) (by rw [← hbk]; rfl) ?_
          refine ev_seq (ev_rs [i64 (((P.length + 1 : Nat) : Int) - 1)] rfl ⟨.inl hDg, trivial⟩ (ev_cond rfl (fun h => ?_) (fun h => ev_sk ?_)))
          · have hz : P.length ≤ 1 := by
              have := of_decide_eq_true h
              omega
            have hst : Y k ++ [b] = Y (k + 1) := by
              rw [hst]
              unfold stepP
              rw [if_pos hz, hbP]; rfl
            refine ev_rs [] rfl ⟨⟨by omega, rfl, Nat.le_refl 1⟩, trivial⟩ (ev_appP 15 69 (Y k) [b] rfl rfl rfl rfl rfl (fun j hj => rfl) (fun j hj => ?_) (ev_exit ?_))
            · match j, hj with
              | 0, _ => rfl
            exact ev_region [] rfl trivial ⟨k + 1, hk, by dsimp only; omega, wk_P2 12 69 rfl rfl rfl (congrArg (fun l => some (obP l)) hst) (fun hd => ⟨le_refl hd _, le_refl hd _, le_r2a rfl rfl, le_refl hd _, le_r2b rfl rfl (by rw [hst]), le_refl hd _, le_refl hd _, le_refl hd _, le_r2a rfl rfl, le_refl hd _, le_n hd (congrArg (fun z => PV.val (.int .i64 z)) hkw), trivial⟩)⟩
          · have hz : ¬ P.length ≤ 1 := by
              have := of_decide_eq_false h
              omega
            obtain ⟨Cs, hCs⟩ : ∃ Cs, (cutP (hiB p (seeds.getD i 0)) P).map (prodF p) = Cs := ⟨_, rfl⟩
            have hst : Y k ++ Cs = Y (k + 1) := by
              rw [hst]
              unfold stepP
              rw [if_neg hz, hCs]
            have hYl2 : (Y k).length + Cs.length ≤ 500 := by
              rw [← hst, List.length_append] at hYk1
              exact hYk1
            have hSp := split_ok hm hf P hPd (by omega) (seeds.getD i 0)
            rw [hCs, ← hbP] at hSp
            refine ev_rs [.tup 2 (two (plS Cs) (i64 0))] rfl ⟨.inl hSp, trivial⟩ ?_
            refine ev_seq (ev_rs [] rfl trivial (ev_cf rfl (ev_sk ?_)))
            refine ev_region [] rfl ⟨⟨by omega, rfl, trivial⟩, trivial⟩ (ev_appP 15 82 (Y k) Cs rfl rfl rfl rfl rfl (fun j hj => rfl) (fun j hj => rfl) ?_)
            exact ev_region [] rfl trivial ⟨k + 1, hk, by dsimp only; omega, wk_P2 12 82 rfl rfl rfl (congrArg (fun l => some (obP l)) hst) (fun hd => ⟨le_refl hd _, le_refl hd _, le_r2a rfl rfl, le_refl hd _, le_r2b rfl rfl (by rw [hst]), le_refl hd _, le_refl hd _, le_refl hd _, le_r2a rfl rfl, le_refl hd _, le_n hd (congrArg (fun z => PV.val (.int .i64 z)) hkw), trivial⟩)⟩
        · have hk : k = (Q i).length := by
            have := of_decide_eq_false h
            omega
          subst hk
          exact at_wk () trivial (wk_P2 12 15 rfl rfl rfl (congrArg (fun l => some (obP l)) hYn) (fun hd => ⟨le_refl hd _, le_refl hd _, le_r2a rfl rfl, le_r2b rfl rfl (by rw [hYn]), le_refl hd _, le_refl hd _, le_refl hd _, trivial⟩))
      rintro ⟨⟩ -
      refine ev_rs [] rfl ⟨Nat.le_of_eq (Nat.zero_add _), trivial⟩ ?_
      refine ev_region [] rfl trivial ?_
      exact ev_region [] rfl trivial ⟨i + 1, hi, by dsimp only; omega, wk_P 15 rfl (fun hd => ⟨le_refl hd _, le_refl hd _, le_r1 rfl rfl, le_refl hd _, le_refl hd _, le_n hd (congrArg (fun z => PV.val (.int .i64 z)) (wrapI _ (by omega) (by omega))), trivial⟩)⟩
    · have hi : i = seeds.length := by
        have := of_decide_eq_false h
        omega
      subst hi
      exact at_wk () trivial (wk_P 12 rfl (fun hd => ⟨le_refl hd _, le_refl hd _, le_r1 rfl rfl, trivial⟩))
  rintro ⟨⟩ -
  obtain ⟨n, hn⟩ : ∃ n, (Q seeds.length).length = n := ⟨_, rfl⟩
  obtain ⟨Ps, hPs⟩ : ∃ Ps, partsP p R seeds seeds.length = Ps := ⟨_, rfl⟩
  have hnP : n = Ps.length := by rw [← hn, hQl, hPs]
  have hQg' := hQg seeds.length
  have hPl' := hPl seeds.length
  have hQbn := hQb seeds.length
  have hflat := parts_flat p R seeds seeds.length
  have hPlt : ∀ T ∈ Ps, ∀ x ∈ T, x < p := fun T hT x hx => by
    rw [← hPs] at hT
    exact hRlt x ((parts_sub hT).subset hx)
  rw [hn] at hQg' hPl' hQbn ⊢
  rw [hPs] at hQg' hPl' hr1 hr2 hflat
  have hFl : ∀ k, k ≤ n → (flatK Ps k).length ≤ 500 := fun k hk => by
    have h1 := flatK_len Ps (k := k) (by omega)
    have h2 := hflat.length_eq
    omega
  have hFn : (flatK Ps n).Perm R := by
    rw [flatK_eq Ps n (by omega), hnP, List.take_length]
    exact hflat
  obtain ⟨Qs, hQs⟩ : ∃ Qs, Q seeds.length = Qs := ⟨_, rfl⟩
  rw [hQs] at hQg' hn ⊢
  subst hn
  refine ev_rs [] rfl trivial (ev_nilown 20 20 rfl rfl ?_)
  refine ev_at (α := Unit) (fun _ => ∀ T ∈ Ps, T.length ≤ 1) (fun _ => [(20, .own 20 0 (flatK Ps Qs.length).length 1)]) (fun _ => [(20, ob64 (flatK Ps Qs.length))]) ?_ ?_
  · refine ev_rs [] rfl trivial ?_
    refine ev_block (ev_while (α := Nat) (fun k => k ≤ Qs.length ∧ ∀ j, j < k → (Ps.getD j []).length ≤ 1) (fun k => [(10, .p (polyF p)), (11, .p (newF p)), (20, .own 20 0 (flatK Ps k).length 1), (87, .p (plS Qs)), (88, .p (i64 Qs.length)), (89, .p (i64 k))]) (fun k => [(20, ob64 (flatK Ps k))]) (fun k => Qs.length - k) 0
      ⟨Nat.zero_le _, fun j hj => absurd hj (Nat.not_lt_zero _)⟩ (wk_ob rfl (fun hd => ⟨le_refl hd _, le_refl hd _, le_o rfl, le_freeze hd (o := obP Qs) rfl (by show 0 + Qs.length * 1 ≤ Qs.length; omega) (fun k hk => ?_) (fun j hj => ?_), le_refl hd _, le_refl hd _, trivial⟩)) ?_)
    · have := hOf_mem k hk
      simp at this
      subst this
      exact (by decide : (20 : Nat) ≠ 12)
    · show Le _ _ _ _ (.p (u64s (Qs.getD (0 + j) []))) _
      rw [Nat.zero_add]
      exact le_refl hd _
    rintro k ⟨hk0, hle⟩
    refine ev_rs [] rfl trivial ?_
    refine ev_seq (ev_cond rfl (fun h => ev_sk ?_) (fun h => ev_exit ?_))
    · have hk : k < Qs.length := Int.ofNat_lt.mp (of_decide_eq_true h)
      have k0 : (0 : Int) ≤ (k : Int) := by omega
      have k1 : (k : Int) < (Qs.length : Int) := by omega
      have hPg := hQg' k hk
      have hPlen := hPl' k hk
      have hFk := hFl k hk0
      have hmem : Ps.getD k [] ∈ Ps := getD_mem (by omega)
      have hPx := hPlt _ hmem
      have hst : flatK Ps (k + 1) = flatK Ps k ++ Ps.getD k [] := rfl
      obtain ⟨P, hP⟩ : ∃ P, Ps.getD k [] = P := ⟨_, rfl⟩
      rw [hP] at hPg hPlen hmem hPx hst
      obtain ⟨b, hbk⟩ : ∃ b, Qs.getD k [] = b := ⟨_, rfl⟩
      have hbP : b = prodF p P := by rw [← hbk, hPg]
      have hDg := Deg_spec hm b (by rw [hbP, hbl]; omega)
      rw [hbP, hbn, hbl, ← hbP] at hDg
      have hkw : IntKind.wrap .i64 ((k : Int) + 1) = ((k + 1 : Nat) : Int) := wrapI _ (by omega) (by omega)
      have hdeg : ((((P.length + 1 : Nat) : Int) - 1)) = (P.length : Int) := by omega
      rw [hdeg] at hDg
      refine ev_seq (ev_block ?_)
      refine ev_rs [] rfl (by repeat' (first | exact trivial | exact gd_t | exact gd_f | exact hk | exact k0 | exact k1 | exact (fun _ => rfl) | intro _ | apply And.intro | assumption | exact rfl | exact gd_t (by assumption) | exact gd_f (by assumption) | exact gd_a (by assumption) (by assumption) | exact gd_b (by assumption) (by assumption))) ?_
      refine ev_eq 22 (.p (u64s b)) (by rw [← hbk]; rfl) ?_
      refine ev_rs [i64 P.length] rfl ⟨.inl hDg, trivial⟩ ?_
      refine ev_block (ev_rs [] rfl trivial (ev_cond rfl (fun h => ev_skip ?_) (fun h => ?_)))
      · have hz : P.length = 0 := Int.ofNat_inj.mp (beq_iff_eq.mp h)
        have hPn : P = [] := List.eq_nil_of_length_eq_zero hz
        have hst : flatK Ps k = flatK Ps (k + 1) := by rw [hst, hPn, List.append_nil]
        exact ev_region [] rfl trivial ⟨k + 1, ⟨hk, fun j hj => by
          by_cases e : j = k
          · rw [e, hP]; omega
          · exact hle j (by omega)⟩, by dsimp only; omega, wk_ren (i' := 20) (congrArg (fun l => some (ob64 l)) hst) (fun hd => ⟨le_refl hd _, le_refl hd _, le_ren rfl (by rw [hst]), le_refl hd _, le_refl hd _, le_n hd (congrArg (fun z => PV.val (.int .i64 z)) hkw), trivial⟩)⟩
      · have hz : ¬ P.length = 0 := fun e => beq_eq_false_iff_ne.mp h (by rw [e]; rfl)
        refine ev_rs [] rfl trivial (ev_cond rfl (fun h => ?_) (fun h => ?_))
        · have hz1 : P.length = 1 := Int.ofNat_inj.mp (beq_iff_eq.mp h)
          obtain ⟨x, rfl⟩ : ∃ x, P = [x] := by
            match P, hz1 with
            | [x], _ => exact ⟨x, rfl⟩
          have hx : x < p := hPx x List.mem_cons_self
          have hMo := Monic_spec hm b (by rw [hbP, hbl]; exact (by decide : (1 + 1 : Nat) < 100000))
          have hbm : monicF (minv p) p (normN p b) = [sb 0 x p, 1] := by rw [hbP, monic_prod hf, prodF_one hp1]; rfl
          rw [hbm] at hMo
          have hSb := Sb_spec hm (b := bk p) (t := tw p) 0 (sb 0 x p)
          rw [sb_sb hx] at hSb
          refine ev_region [u64s [sb 0 x p, 1], u64 x] rfl (by repeat' (first | exact trivial | exact gd_t | exact gd_f | exact .inl hMo | exact .inl hSb | exact (by omega) | exact Nat.le_refl 1 | exact (by decide : (0 : Nat) < 2) | exact (by decide : (0 : Int) < 2) | exact (fun _ => rfl) | intro _ | apply And.intro | assumption | exact rfl | exact gd_t (by assumption) | exact gd_f (by assumption) | exact gd_a (by assumption) (by assumption) | exact gd_b (by assumption) (by assumption))) (ev_app 20 109 (flatK Ps k) [x] rfl rfl rfl rfl rfl (fun j hj => rfl) (fun j hj => ?_) ?_)
          · match j, hj with
            | 0, _ => rfl
          exact ev_region [] rfl trivial ⟨k + 1, ⟨hk, fun j hj => by
            by_cases e : j = k
            · rw [e, hP]; exact Nat.le_refl 1
            · exact hle j (by omega)⟩, by dsimp only; omega, wk_ren (i' := 109) (congrArg (fun l => some (ob64 l)) hst.symm) (fun hd => ⟨le_refl hd _, le_refl hd _, le_ren rfl (by rw [hst]), le_refl hd _, le_refl hd _, le_n hd (congrArg (fun z => PV.val (.int .i64 z)) hkw), trivial⟩)⟩
        · have hz1 : ¬ P.length = 1 := fun e => beq_eq_false_iff_ne.mp h (by rw [e]; rfl)
          rw [hr2 ⟨P, hmem, by omega⟩]
          exact ev_rs [] rfl trivial (ev_ret (ret2 (fz_p (PLe.refl _)) (fz_p (PLe.refl _))))
    · have hk : k = Qs.length := by
        have := of_decide_eq_false h
        omega
      subst hk
      refine at_ob () (fun T hT => ?_) rfl (fun hd => ⟨le_o rfl, trivial⟩)
      obtain ⟨j, hj, rfl⟩ := mem_getD' hT
      exact hle j (by omega)
  rintro ⟨⟩ hall
  have hS := hsort _ hFn
  rw [hRs _ hFn] at hS
  rw [hr1 hall]
  refine ev_rg [.x ⟨[.own 20 0 (flatK Ps Qs.length).length 1], [(20, ob64 (flatK Ps Qs.length))], [(20, ob64 R)], .p (.val (.tuple #[]))⟩] rfl ⟨⟨rfl, ⟨rfl, trivial⟩, hS⟩, trivial⟩ ?_
  exact ev_rs [] rfl trivial (ev_ret (ret2 (fz_ob' rfl hFn.length_eq rfl) (fz_p (PLe.refl _))))

end Go.Proofs

/- roots, walked: how often a number is a root; the chapter's examples. -/
set_option linter.unusedVariables false
namespace Go.Proofs
open Go Vinc Vinc.Num

theorem minv_one {p : Nat} (hp : 2 ≤ p) : minv p 1 = 1 := minv_eq hp (by rw [Nat.mul_one]; exact Nat.mod_eq_of_lt hp)

theorem Times_all {p : Nat} (hm : MayM p) (hb : isB p = true) (a : List Nat) (x : Nat) (hl : a.length ≤ 500) (h0 : 0 < (normN p a).length) : CallSpec Tryd.pr.P Tryd.pr.G 22 [u64 p, u64s a, u64 x] (.tup 2 (two (i64 (timF (minv p) p x (normN p a).length (normN p a))) (i64 0))) := by
  have hp1 : 1 < p := hm.1
  have hp : 0 < p := by omega
  have h1 := minv_one hm.1
  have hln := length_normN p a
  have hD := Deg_spec hm a (by omega)
  obtain ⟨T, hT⟩ : ∃ T, timF (minv p) p x (normN p a).length (normN p a) = T := ⟨_, rfl⟩
  rw [hT]
  refine callSpec_of Tryd.pr Tryd.func22 rfl rfl rfl fun w0 ok0 hok hG => ?_
  refine ev_rs [] rfl trivial ?_
  refine ev_rs [.tup 3 (three (polyF p) (newF p) (i64 0))] rfl ⟨.inl (RtFields_ok hm hb), trivial⟩ ?_
  refine ev_seq (ev_block (ev_rs [] rfl trivial (ev_cf rfl ?_)))
  refine ev_rs [i64 (((normN p a).length : Int) - 1)] rfl ⟨.inl hD, trivial⟩ (ev_cond rfl (fun h => ?_) (fun h => ev_skip ?_))
  · exfalso
    have := of_decide_eq_true h
    omega
  refine ev_rs [] rfl trivial ?_
  refine ev_at (α := Unit) (fun _ => True) (fun _ => [(11, .p (i64 T))]) (fun _ => []) ?_ ?_
  · refine ev_block (ev_while0 (α := Nat × Nat × List Nat) (fun q => 0 < (normN p q.2.2).length ∧ (normN p q.2.2).length ≤ q.2.1 ∧ q.2.2.length ≤ 500 ∧ q.1 + timF (minv p) p x q.2.1 (normN p q.2.2) = T ∧ q.1 + q.2.1 ≤ 500)
      (fun q => [(1, .p (u64s q.2.2)), (2, .p (u64 x)), (8, .p (polyF p)), (9, .p (newF p)), (11, .p (i64 q.1))]) (fun q => q.2.1) (0, (normN p a).length, a)
      ⟨h0, Nat.le_refl _, hl, by rw [← hT]; exact Nat.zero_add _, by dsimp only; omega⟩ ⟨le_0, le_0, le_0, le_0, le_0, trivial⟩ ?_)
    rintro ⟨n, f, c⟩ ⟨g1, g2, g3, g4, g5⟩
    dsimp only at g1 g2 g3 g4 g5
    have hev : evalN p x (normN p c) = evalN p x c := evalN_eq hp (ev_norm x c)
    obtain ⟨f, rfl⟩ : ∃ g, f = g + 1 := ⟨f - 1, by omega⟩
    refine ev_seq (ev_rs [u64 (evalN p x c)] rfl ⟨.inl (Eval_spec hm c x (by omega)), trivial⟩ (ev_cond rfl (fun h => ev_sk ?_) (fun h => ev_exit ?_)))
    · have hz : evalN p x c = 0 := Int.ofNat_inj.mp (beq_iff_eq.mp h)
      have hLs := RtLess_spec hm x
      have hLl : normN p (lin p x) = lin p x := (Nz.lin hp1 x).norm_id hp
      have hDv := DivM_ok hm c (lin p x) (by omega) (show (2 : Nat) < 100000 by decide) (by rw [hLl]; exact (by decide : 0 < 2))
      rw [hLl] at hDv
      obtain ⟨q1, q2, q3⟩ := lin_pos (iv := minv p) hp1 h1 (Nz.norm hp c) g1 (hev.trans hz)
      have ht : timF (minv p) p x (f + 1) (normN p c) = timF (minv p) p x f (divN (minv p) p (normN p c) (lin p x)).1 + 1 := if_pos (hev.trans hz)
      obtain ⟨qq, hqq⟩ : ∃ qq, (divN (minv p) p (normN p c) (lin p x)).1 = qq := ⟨_, rfl⟩
      obtain ⟨rr, hrr⟩ : ∃ rr, (divN (minv p) p (normN p c) (lin p x)).2 = rr := ⟨_, rfl⟩
      rw [hqq] at hDv q1 q2 q3 ht
      rw [hrr] at hDv
      have hqn := q3.norm_id hp
      have hlc := length_normN p c
      refine ev_block (ev_seq (ev_rs [u64s (lin p x), .tup 3 (three (u64s qq) (u64s rr) (i64 0))] rfl (by repeat' (first | exact trivial | exact gd_t | exact gd_f | exact .inl hLs | exact .inl hDv | exact (fun _ => rfl) | intro _ | apply And.intro | assumption | exact rfl | exact gd_t (by assumption) | exact gd_f (by assumption) | exact gd_a (by assumption) (by assumption) | exact gd_b (by assumption) (by assumption))) (ev_rs [] rfl trivial (ev_cf rfl (ev_skip ?_)))))
      exact ev_region [] rfl trivial (round0 (n + 1, f, qq) ⟨by dsimp only; rw [hqn]; exact q1, by dsimp only; rw [hqn]; omega, by dsimp only; omega, by dsimp only; rw [hqn, ← g4, ht]; omega, by dsimp only; omega⟩ (Nat.lt_succ_self f) ⟨le_0, le_0, le_0, le_0, le_e (congrArg (fun z => PV.val (.int .i64 z)) (wrapI _ (by omega) (by omega))), trivial⟩)
    · have hz : ¬ evalN p x c = 0 := fun e => beq_eq_false_iff_ne.mp h (by rw [e]; rfl)
      have ht : timF (minv p) p x (f + 1) (normN p c) = 0 := if_neg (fun e => hz (hev.symm.trans e))
      rw [ht] at g4
      exact at0 () trivial ⟨le_e (congrArg (fun z : Nat => PV.val (.int .i64 (z : Int))) g4), trivial⟩
  rintro ⟨⟩ -
  exact ev_rs [] rfl trivial (ev_ret (ret2 (fz_p (PLe.refl _)) (fz_p (PLe.refl _))))

theorem Times_zero {p : Nat} (hm : MayM p) (hb : isB p = true) (a : List Nat) (x : Nat) (hl : a.length ≤ 500) (h0 : (normN p a).length = 0) : CallSpec Tryd.pr.P Tryd.pr.G 22 [u64 p, u64s a, u64 x] (.tup 2 (two (i64 0) (i64 1))) := by
  have hD := Deg_spec hm a (by omega)
  refine callSpec_of Tryd.pr Tryd.func22 rfl rfl rfl fun w0 ok0 hok hG => ?_
  refine ev_rs [] rfl trivial ?_
  refine ev_rs [.tup 3 (three (polyF p) (newF p) (i64 0))] rfl ⟨.inl (RtFields_ok hm hb), trivial⟩ ?_
  refine ev_seq (ev_block (ev_rs [] rfl trivial (ev_cf rfl ?_)))
  refine ev_rs [i64 (((normN p a).length : Int) - 1)] rfl ⟨.inl hD, trivial⟩ (ev_cond rfl (fun h => ?_) (fun h => ev_skip ?_))
  · exact ev_rs [] rfl trivial (ev_ret (ret2 (fz_p (PLe.refl _)) (fz_p (PLe.refl _))))
  · exfalso
    have := of_decide_eq_false h
    omega

theorem Times_no {p : Nat} (hp : p < 18446744073709551616) (h : ¬ (p < 9223372036854775808 ∧ isB p = true)) (a : List Nat) (x : Nat) : CallSpec Tryd.pr.P Tryd.pr.G 22 [u64 p, u64s a, u64 x] (.tup 2 (two (i64 0) (i64 14))) := by
  refine callSpec_of Tryd.pr Tryd.func22 rfl rfl rfl fun w0 ok0 hok hG => ?_
  refine ev_rs [] rfl trivial ?_
  refine ev_rs [.tup 3 (three nilP nilP (i64 14))] rfl ⟨.inl (RtFields_no hp h), trivial⟩ ?_
  refine ev_seq (ev_block (ev_rs [] rfl trivial (ev_ct rfl ?_)))
  exact ev_rs [] rfl trivial (ev_ret (ret2 (fz_p (PLe.refl _)) (fz_p (PLe.refl _))))

/-! ### the chapter's examples -/

theorem roots7 : rootsN 7 [6, 0, 1] = [1, 6] := by decide +kernel
theorem lin7 : prodF 7 [1, 6] = [6, 0, 1] := by decide +kernel
theorem hi7 : hiB 7 1 1 ≠ hiB 7 1 6 := by decide +kernel
theorem parts7 : ∀ T ∈ partsP 7 [1, 6] [1] 1, T.length ≤ 1 := by decide +kernel
theorem tim7 : timF iv7 7 0 3 [0, 0, 1] = 2 := by decide +kernel

theorem same_t (x : List Nat) (hx : x.length < 1000000) : CallSpec Tryd.pr.P Tryd.pr.G 13 [u64s x, u64s x] (Vinc.bool true) := by
  have := Same_spec x x hx hx
  rwa [decide_eq_true rfl] at this

theorem awake11_spec : CallSpec Tryd.pr.P Tryd.pr.G 7 [] (Vinc.bool true) := by
  have hf := asked_fd asked7
  have hL := Linear_ok may7 isB7 hf [6, 0, 1] (by decide) (by decide)
  have hR := Roots_any may7 isB7 hf (by decide) [6, 0, 1] [1] (by decide) (by decide) (by decide) (fun xs hxs => sort_spec xs (by rw [hxs.length_eq, roots7]; decide)) (.tup 2 (two (u64s [1, 6]) (i64 0)))
    (fun _ => by rw [roots7]) (fun ⟨T, hT, hl⟩ => by
      rw [roots7] at hT
      have := parts7 T hT
      omega)
  have hT := Times_all may7 isB7 [0, 0, 1] 0 (by decide) (by decide)
  rw [show timF (minv 7) 7 0 (normN 7 [0, 0, 1]).length (normN 7 [0, 0, 1]) = 2 by rw [minv7]; exact tim7] at hT
  rw [roots7, lin7] at hL
  have h1 := same_t [6, 0, 1] (by decide)
  have h2 := same_t [1, 6] (by decide)
  have three3 : ∀ {x y z : Nat} {g : Nat → PV}, g 0 = u64 x → g 1 = u64 y → g 2 = u64 z → PLe (.sl 3 1 g) (u64s [x, y, z]) := fun h0 h1 h2 => PLe.lit rfl fun j hj => by
    match j, hj with
    | 0, _ => exact h0
    | 1, _ => exact h1
    | 2, _ => exact h2
  refine callSpec_of Tryd.pr Tryd.func7 rfl rfl rfl fun w0 ok0 hok hG => ?_
  refine ev_rs [] rfl trivial ?_
  refine ev_at (α := Unit) (fun _ => True) (fun _ => [(1, .p (u64s [6, 0, 1]))]) (fun _ => []) ?_ ?_
  · refine ev_region [] rfl (by repeat' (first | exact trivial | exact gd_t | exact gd_f | exact (fun _ => rfl) | intro _ | apply And.intro | assumption | exact rfl | exact gd_t (by assumption) | exact gd_f (by assumption) | exact gd_a (by assumption) (by assumption) | exact gd_b (by assumption) (by assumption))) (at0 () trivial ⟨le_freeze ren_nil rfl (Nat.le_refl 3) (fun k hk => by cases hk) (fun j hj => ?_), trivial⟩)
    match j, hj with
    | 0, _ => exact le_refl ren_nil _
    | 1, _ => exact le_refl ren_nil _
    | 2, _ => exact le_refl ren_nil _
  rintro ⟨⟩ -
  refine ev_rs [.tup 2 (two (u64s [6, 0, 1]) (i64 0))] rfl (by repeat' (first | exact trivial | exact gd_t | exact gd_f | exact .inl hL | exact (fun _ => rfl) | intro _ | apply And.intro | assumption | exact rfl | exact gd_t (by assumption) | exact gd_f (by assumption) | exact gd_a (by assumption) (by assumption) | exact gd_b (by assumption) (by assumption))) ?_
  refine ev_rs [.tup 2 (two (u64s [1, 6]) (i64 0))] rfl (by repeat' (first | exact trivial | exact gd_t | exact gd_f | exact Nat.le_refl 1 | exact .inl (callSpec_args (as' := [u64 7, u64s [6, 0, 1], u64s [1]]) ⟨PLe.refl _, PLe.refl _, PLe.lit1 rfl, trivial⟩ hR) | exact (fun _ => rfl) | intro _ | apply And.intro | assumption | exact rfl | exact gd_t (by assumption) | exact gd_f (by assumption) | exact gd_a (by assumption) (by assumption) | exact gd_b (by assumption) (by assumption))) ?_
  refine ev_rs [.tup 2 (two (i64 2) (i64 0))] rfl (by repeat' (first | exact trivial | exact gd_t | exact gd_f | exact Nat.le_refl 3 | exact .inl (callSpec_args (as' := [u64 7, u64s [0, 0, 1], u64 0]) ⟨PLe.refl _, three3 rfl rfl rfl, PLe.refl _, trivial⟩ hT) | exact (fun _ => rfl) | intro _ | apply And.intro | assumption | exact rfl | exact gd_t (by assumption) | exact gd_f (by assumption) | exact gd_a (by assumption) (by assumption) | exact gd_b (by assumption) (by assumption))) ?_
  refine ev_rs [Vinc.bool true, Vinc.bool true] rfl (by repeat' (first | exact trivial | exact gd_t | exact gd_f | exact Nat.le_refl 2 | exact .inl h1 | exact .inl (callSpec_args (as' := [u64s [1, 6], u64s [1, 6]]) ⟨PLe.refl _, PLe.lit2 rfl rfl, trivial⟩ h2) | exact rfl | exact (fun _ => rfl) | intro _ | apply And.intro | assumption | exact rfl | exact gd_t (by assumption) | exact gd_f (by assumption) | exact gd_a (by assumption) (by assumption) | exact gd_b (by assumption) (by assumption))) (ev_ret (ret1 (fz_p (PLe.of_eq rfl))))

end Go.Proofs

/- The laws of roots: telling apart. -/
set_option linter.unusedVariables false
namespace Go.Proofs
open Go Vinc Vinc.Num

theorem unasked {p : Nat} (hA : ¬ Asked p) : (MayM p ∧ isB p = true ∧ 100000 < p ∧ p < 9223372036854775808) ∨ ¬ (p < 9223372036854775808 ∧ isB p = true) := by
  by_cases hB : p < 9223372036854775808 ∧ isB p = true
  · have hbig : 100000 < p := by
      rcases Nat.lt_or_ge 100000 p with h1 | h1
      · exact h1
      · have := isB_not hA h1
        rw [hB.2] at this; cases this
    exact .inl ⟨⟨by omega, hB.1⟩, hB.2, hbig, hB.1⟩
  · exact .inr hB

theorem RootsTells_spec (p seed x y : Nat) (hp : p < 18446744073709551616) : CallSpec Tryd.pr.P Tryd.pr.G 6 [u64 p, u64 seed, .agg 2 (two (u64 x) (u64 y))] (Vinc.bool true) := by
  refine callSpec_of Tryd.pr Tryd.func6 rfl rfl rfl fun w0 ok0 hok hG => ?_
  refine ev_rs [] rfl (by repeat' (first | exact trivial | exact gd_t | exact gd_f | exact (fun _ => rfl) | intro _ | apply And.intro | assumption | exact rfl | exact gd_t (by assumption) | exact gd_f (by assumption) | exact gd_a (by assumption) (by assumption) | exact gd_b (by assumption) (by assumption))) ?_
  by_cases hA : Asked p
  · have hm := asked_may hA
    have hb := isB_asked hA
    have hT := Tells_ok hm hb seed x y
    have hR := RTells_spec hm seed x y
    obtain ⟨b, hbb⟩ : ∃ b, tellB p seed x y = b := ⟨_, rfl⟩
    rw [hbb] at hT hR
    refine ev_rs [.tup 2 (two (Vinc.bool b) (i64 0))] rfl (by repeat' (first | exact trivial | exact gd_t | exact gd_f | exact .inl hT | exact (by decide : (0 : Nat) < 2) | exact (by decide : (1 : Nat) < 2) | exact (by decide : (0 : Int) < 2) | exact (by decide : (1 : Int) < 2) | exact (fun _ => rfl) | intro _ | apply And.intro | assumption | exact rfl | exact gd_t (by assumption) | exact gd_f (by assumption) | exact gd_a (by assumption) (by assumption) | exact gd_b (by assumption) (by assumption))) ?_
    refine ev_seq (ev_rs [Vinc.bool true] rfl ⟨.inl (LawPrime_t hA), trivial⟩ (ev_cf rfl (ev_sk ?_)))
    refine ev_rs [Vinc.bool b, Vinc.bool true] rfl (by repeat' (first | exact trivial | exact gd_t | exact gd_f | exact .inl hR | exact .inl awake11_spec | exact (by decide : (0 : Nat) < 2) | exact (by decide : (1 : Nat) < 2) | exact (by decide : (0 : Int) < 2) | exact (by decide : (1 : Int) < 2) | exact (fun _ => rfl) | intro _ | apply And.intro | assumption | exact rfl | exact gd_t (by assumption) | exact gd_f (by assumption) | exact gd_a (by assumption) (by assumption) | exact gd_b (by assumption) (by assumption))) (ev_ret (ret1 (fz_p (PLe.of_eq (congrArg Vinc.bool ?_)))))
    show (bif (bif true then (b == b) else false) then true else false) = true
    cases b <;> rfl
  · obtain ⟨b, e, hT, hO⟩ : ∃ (b : Bool) (e : Int), CallSpec Tryd.pr.P Tryd.pr.G 20 [u64 p, u64 seed, u64 x, u64 y] (.tup 2 (two (Vinc.bool b) (i64 e))) ∧ ((100000 < p ∧ p < 9223372036854775808) ∨ (e = 14 ∧ b = false)) := by
      rcases unasked hA with ⟨hm, hb, h1, h2⟩ | hB
      · exact ⟨_, 0, Tells_ok hm hb seed x y, .inl ⟨h1, h2⟩⟩
      · exact ⟨false, 14, Tells_no hp hB seed x y, .inr ⟨rfl, rfl⟩⟩
    refine ev_rs [.tup 2 (two (Vinc.bool b) (i64 e))] rfl (by repeat' (first | exact trivial | exact gd_t | exact gd_f | exact .inl hT | exact (by decide : (0 : Nat) < 2) | exact (by decide : (1 : Nat) < 2) | exact (by decide : (0 : Int) < 2) | exact (by decide : (1 : Int) < 2) | exact (fun _ => rfl) | intro _ | apply And.intro | assumption | exact rfl | exact gd_t (by assumption) | exact gd_f (by assumption) | exact gd_a (by assumption) (by assumption) | exact gd_b (by assumption) (by assumption))) ?_
    refine ev_seq (ev_rs [Vinc.bool false] rfl ⟨.inl (LawPrime_f hA), trivial⟩ (ev_ct rfl ?_))
    refine ev_rs [Vinc.bool true] rfl (by repeat' (first | exact trivial | exact gd_t | exact gd_f | exact .inl awake11_spec | exact (fun _ => rfl) | intro _ | apply And.intro | assumption | exact rfl | exact gd_t (by assumption) | exact gd_f (by assumption) | exact gd_a (by assumption) (by assumption) | exact gd_b (by assumption) (by assumption))) (ev_ret (ret1 (fz_p (PLe.of_eq (congrArg Vinc.bool ?_)))))
    show (bif (bif (bif decide ((p : Int) > 100000) then decide ((p : Int) < 9223372036854775808) else false) then true else (bif (e == 14) then !b else false)) then true else false) = true
    rcases hO with ⟨h1, h2⟩ | ⟨h1, h2⟩
    · rw [decide_eq_true (by omega), decide_eq_true (by omega)]; rfl
    · subst h1
      subst h2
      cases (bif decide ((p : Int) > 100000) then decide ((p : Int) < 9223372036854775808) else false) <;> rfl

end Go.Proofs

/- The laws of roots: only roots; squares. -/
set_option linter.unusedVariables false
namespace Go.Proofs
open Go Vinc Vinc.Num

abbrev SortsR (R : List Nat) : Prop := ∀ xs : List Nat, xs.Perm R → CallSpecX Tryd.pr.P Tryd.pr.G 29 [.own 20 0 xs.length 1] [(20, ob64 xs)] [(20, ob64 (sortN xs))] (.p (.val (.tuple #[])))

theorem sorts_few {R : List Nat} (h : R.length ≤ 12) : SortsR R := fun xs hx => sort_spec xs (by rw [hx.length_eq]; exact h)

theorem roots_few {p : Nat} (hf : FdP p (minv p)) {a : List Nat} (h0 : 0 < (normN p a).length) : (rootsN p a).length < a.length := by
  have h1 := rootsN_len hf (Nz.norm hf.pos a) h0
  rw [rootsN_norm hf.pos] at h1
  have h2 := length_normN p a
  omega

theorem told_parts {p : Nat} (h2 : p ≠ 2) {R seeds : List Nat} (hd : Dist p R) : (∀ T ∈ partsP p R seeds seeds.length, T.length ≤ 1) ↔ AllP p R seeds :=
  (parts_all hd seeds.length).trans (allP_iff h2 (List.Perm.refl R) hd).symm

theorem Roots_told {p : Nat} (hA : Asked p) (a seeds : List Nat) (hl : a.length ≤ 500) (h0 : 0 < (normN p a).length) (hsl : seeds.length < 100000) (hs : SortsR (rootsN p a)) (hall : AllP p (rootsN p a) seeds) :
    CallSpec Tryd.pr.P Tryd.pr.G 8 [u64 p, u64s a, u64s seeds] (.tup 2 (two (u64s (rootsN p a)) (i64 0))) := by
  by_cases h2 : p = 2
  · subst h2
    exact Roots_two (asked_may hA) (isB_asked hA) (asked_fd hA) a seeds hl h0
  · have ht := (told_parts h2 (rootsN_dist p a)).mpr hall
    refine Roots_any (asked_may hA) (isB_asked hA) (asked_fd hA) h2 a seeds hl h0 hsl hs _ (fun _ => rfl) fun ⟨T, hT, hTl⟩ => ?_
    have := ht T hT
    omega

theorem Roots_untold {p : Nat} (hA : Asked p) (a seeds : List Nat) (hl : a.length ≤ 500) (h0 : 0 < (normN p a).length) (hsl : seeds.length < 100000) (hs : SortsR (rootsN p a)) (hall : ¬ AllP p (rootsN p a) seeds) :
    CallSpec Tryd.pr.P Tryd.pr.G 8 [u64 p, u64s a, u64s seeds] (.tup 2 (two nilS (i64 12))) := by
  have h2 : p ≠ 2 := fun e => hall fun i hi k hk => .inl e
  exact Roots_any (asked_may hA) (isB_asked hA) (asked_fd hA) h2 a seeds hl h0 hsl hs _ (fun h => absurd ((told_parts h2 (rootsN_dist p a)).mp h) hall) fun _ => rfl

theorem Roots_zero {p : Nat} (hA : Asked p) (a seeds : List Nat) (hl : a.length ≤ 500) (h0 : (normN p a).length = 0) : CallSpec Tryd.pr.P Tryd.pr.G 8 [u64 p, u64s a, u64s seeds] (.tup 2 (two nilS (i64 1))) :=
  Roots_bad (e := 1) (by decide) (Linear_zero (asked_may hA) (isB_asked hA) a hl h0)

theorem all_f : ∀ a b c d : Bool, a = false → b = false → (c = false ∨ d = false) → (bif (bif a then true else b) then true else (bif c then d else false)) = false := by decide
theorem or3_t : ∀ a b : Bool, (bif (bif a then true else b) then true else !false) = true := by decide
theorem or3_f : ∀ a b c : Bool, (bif (bif a then true else b) then true else c) = false → a = false ∧ b = false ∧ c = false := by decide

set_option maxRecDepth 20000 in
theorem RootsOnly_spec (p : Nat) (a seeds : List Nat) (hp : p < 18446744073709551616) : CallSpec Tryd.pr.P Tryd.pr.G 4 [u64 p, u64s a, u64s seeds] (Vinc.bool true) := by
  refine callSpec_of Tryd.pr Tryd.func4 rfl rfl rfl fun w0 ok0 hok hG => ?_
  refine ev_rs [] rfl trivial ?_
  by_cases hA : ¬ Asked p
  · refine ev_seq (ev_rs [Vinc.bool false] rfl (by repeat' (first | exact trivial | exact gd_t | exact gd_f | exact .inl (LawPrime_f hA) | exact (fun _ => rfl) | intro _ | apply And.intro | assumption | exact rfl | exact gd_t (by assumption) | exact gd_f (by assumption) | exact gd_a (by assumption) (by assumption) | exact gd_b (by assumption) (by assumption))) (ev_ct (congrArg (fun z => AV.p (PV.val (.bool z))) (or3_t _ _)) ?_))
    exact ev_rs [Vinc.bool true] rfl ⟨.inl awake11_spec, trivial⟩ (ev_ret (ret1 (fz_p (PLe.refl _))))
  have hA : Asked p := Classical.byContradiction hA
  have hm := asked_may hA
  have hf := asked_fd hA
  have hp0 := hf.pos
  refine ev_seq (ev_rs [Vinc.bool true] rfl (by repeat' (first | exact trivial | exact gd_t | exact gd_f | exact .inl (LawPrime_t hA) | exact (fun _ => rfl) | intro _ | apply And.intro | assumption | exact rfl | exact gd_t (by assumption) | exact gd_f (by assumption) | exact gd_a (by assumption) (by assumption) | exact gd_b (by assumption) (by assumption))) (ev_cond rfl (fun h => ?_) (fun h => ev_sk ?_)))
  · exact ev_rs [Vinc.bool true] rfl ⟨.inl awake11_spec, trivial⟩ (ev_ret (ret1 (fz_p (PLe.refl _))))
  obtain ⟨g1, g2, _⟩ := or3_f _ _ _ h
  have hl : a.length ≤ 12 := by have := of_decide_eq_false g1; omega
  have hl2 : seeds.length ≤ 30 := by have := of_decide_eq_false g2; omega
  have bad : ∀ e : Int, (e = 1 ∨ e = 12) → CallSpec Tryd.pr.P Tryd.pr.G 8 [u64 p, u64s a, u64s seeds] (.tup 2 (two nilS (i64 e))) → ∃ e : Int, (e = 1 ∨ e = 12) ∧ CallSpec Tryd.pr.P Tryd.pr.G 8 [u64 p, u64s a, u64s seeds] (.tup 2 (two (u64s []) (i64 e))) :=
    fun e he h => ⟨e, he, callSpec_res (PLe.two2 PLe.nil (PLe.refl _)) h⟩
  have hcase : (∃ e : Int, (e = 1 ∨ e = 12) ∧ CallSpec Tryd.pr.P Tryd.pr.G 8 [u64 p, u64s a, u64s seeds] (.tup 2 (two (u64s []) (i64 e)))) ∨ (0 < (normN p a).length ∧ CallSpec Tryd.pr.P Tryd.pr.G 8 [u64 p, u64s a, u64s seeds] (.tup 2 (two (u64s (rootsN p a)) (i64 0)))) := by
    by_cases h0 : (normN p a).length = 0
    · exact .inl (bad 1 (.inl rfl) (Roots_zero hA a seeds (by omega) h0))
    · have h0 : 0 < (normN p a).length := by omega
      have hS := sorts_few (R := rootsN p a) (by have := roots_few hf h0; omega)
      by_cases hall : AllP p (rootsN p a) seeds
      · exact .inr ⟨h0, Roots_told hA a seeds (by omega) h0 (by omega) hS hall⟩
      · exact .inl (bad 12 (.inr rfl) (Roots_untold hA a seeds (by omega) h0 (by omega) hS hall))
  rcases hcase with ⟨e, he, hR⟩ | ⟨h0, hR⟩
  · refine ev_rs [.tup 2 (two (u64s []) (i64 e))] rfl ⟨.inl hR, trivial⟩ ?_
    have hc : (e != 0) = true := bne_iff_ne.mpr (by omega)
    refine ev_seq (ev_rs [] rfl trivial (ev_ct (congrArg (fun z => AV.p (PV.val (.bool z))) hc) ?_))
    refine ev_rs [Vinc.bool true] rfl (by repeat' (first | exact trivial | exact gd_t | exact gd_f | exact .inl awake11_spec | exact (fun _ => rfl) | intro _ | apply And.intro | assumption | exact rfl | exact gd_t (by assumption) | exact gd_f (by assumption) | exact gd_a (by assumption) (by assumption) | exact gd_b (by assumption) (by assumption))) (ev_ret (ret1 (fz_p (PLe.of_eq (congrArg Vinc.bool ?_)))))
    rcases he with rfl | rfl <;> rfl
  · have hlt := rootsN_lt p a
    have hmem : ∀ x ∈ rootsN p a, x < p ∧ evalN p x a = 0 := fun x hx => mem_rootsN.mp hx
    have hlen : (rootsN p a).length < (normN p a).length := by
      have h1 := rootsN_len hf (Nz.norm hf.pos a) h0
      rwa [rootsN_norm hf.pos] at h1
    have hln := length_normN p a
    obtain ⟨R, hRR⟩ : ∃ R, rootsN p a = R := ⟨_, rfl⟩
    rw [hRR] at hR hlt hmem hlen
    have hget : ∀ i, i < R.length → R.getD i 0 < p ∧ evalN p (R.getD i 0) a = 0 := fun i hi => hmem _ (by
      rw [List.getD_eq_getElem?_getD, List.getElem?_eq_getElem hi]
      exact List.getElem_mem hi)
    have hinc : ∀ i, i + 1 < R.length → R.getD i 0 < R.getD (i + 1) 0 := fun i hi => by
      have := List.pairwise_iff_getElem.mp hlt i (i + 1) (by omega) hi (by omega)
      rwa [List.getD_eq_getElem?_getD, List.getD_eq_getElem?_getD, List.getElem?_eq_getElem (by omega : i < R.length), List.getElem?_eq_getElem hi]
    refine ev_rs [.tup 2 (two (u64s R) (i64 0))] rfl ⟨.inl hR, trivial⟩ ?_
    refine ev_seq (ev_rs [] rfl trivial (ev_cf rfl (ev_sk ?_)))
    refine ev_at (α := Unit) (fun _ => True) (fun _ => [(0, .p (u64 p)), (1, .p (u64s a)), (7, .p (u64s R))]) (fun _ => []) ?_ ?_
    · refine ev_rs [] rfl trivial ?_
      refine ev_block (ev_while0 (α := Nat) (fun i => i ≤ R.length) (fun i => [(0, .p (u64 p)), (1, .p (u64s a)), (7, .p (u64s R)), (9, .p (i64 i))]) (fun i => R.length - i) 0
        (Nat.zero_le _) ⟨le_0, le_0, le_0, le_0, trivial⟩ ?_)
      rintro i hi0
      refine ev_seq (ev_rs [] rfl trivial (ev_cond rfl (fun h => ev_sk ?_) (fun h => ev_exit ?_)))
      · have hi : i < R.length := Int.ofNat_lt.mp (of_decide_eq_true h)
        have i0 : (0 : Int) ≤ (i : Int) := by omega
        have i1 : (i : Int) < (R.length : Int) := by omega
        obtain ⟨hx, hz⟩ := hget i hi
        have hV := Value_spec hm a (R.getD i 0) (by omega) (by omega)
        rw [show evalF p (R.getD i 0) a a.length = 0 from hz] at hV
        have hge : decide (((R.getD i 0 : Nat) : Int) ≥ (p : Int)) = false := decide_eq_false (by omega)
        refine ev_seq (ev_block ?_)
        cases i with
        | zero =>
          have hno : ∀ {P : Prop} {b : Bool}, (b && ((decide (((0 : Nat) : Int) > 0)) == true)) = true → P := fun e => by
            rw [Bool.and_eq_true] at e
            cases e.2
          refine ev_ds [u64 0] (by kernel_rfl) rfl rfl (by repeat' (first | exact trivial | exact gd_t | exact gd_f | exact .inl hV | exact hi | exact i0 | exact i1 | exact fun e => hno e | exact (fun _ => rfl) | intro _ | apply And.intro | assumption | exact rfl | exact gd_t (by assumption) | exact gd_f (by assumption) | exact gd_a (by assumption) (by assumption) | exact gd_b (by assumption) (by assumption))) (ev_cf (congrArg (fun z => AV.p (PV.val (.bool z))) (all_f _ _ _ _ rfl hge (.inl rfl))) (ev_skip ?_))
          exact ev_region [] rfl trivial (round0 1 hi (by omega) ⟨le_0, le_0, le_0, le_e (congrArg (fun z => PV.val (.int .i64 z)) (wrapI _ (by omega) (by omega))), trivial⟩)
        | succ i =>
          have hlt' := hinc i hi
          have ek : IntKind.wrap .i64 (((i + 1 : Nat) : Int) - 1) = (i : Int) := (wrapI _ (by omega) (by omega)).trans (by omega)
          have e5 : (IntKind.wrap .i64 (((i + 1 : Nat) : Int) - 1)).toNat = i := by rw [ek, Int.toNat_natCast]
          have c1 : (IntKind.wrap .i64 (((i + 1 : Nat) : Int) - 1)).toNat < R.length := by rw [e5]; omega
          have c2 : 0 ≤ IntKind.wrap .i64 (((i + 1 : Nat) : Int) - 1) := by rw [ek]; omega
          have c3 : IntKind.wrap .i64 (((i + 1 : Nat) : Int) - 1) < (R.length : Int) := by rw [ek]; omega
          have hge2 : decide (((R.getD (IntKind.wrap .i64 (((i + 1 : Nat) : Int) - 1)).toNat 0 : Nat) : Int) ≥ ((R.getD (i + 1) 0 : Nat) : Int)) = false := by
            rw [e5]
            exact decide_eq_false (by omega)
          refine ev_ds [u64 0] (by kernel_rfl) rfl rfl (by repeat' (first | exact trivial | exact gd_t | exact gd_f | exact .inl hV | exact hi | exact i0 | exact i1 | exact c1 | exact c2 | exact c3 | exact (fun _ => rfl) | intro _ | apply And.intro | assumption | exact rfl | exact gd_t (by assumption) | exact gd_f (by assumption) | exact gd_a (by assumption) (by assumption) | exact gd_b (by assumption) (by assumption))) (ev_cf (congrArg (fun z => AV.p (PV.val (.bool z))) (all_f _ _ _ _ rfl hge (.inr hge2))) (ev_skip ?_))
          exact ev_region [] rfl trivial (round0 (i + 1 + 1) hi (by omega) ⟨le_0, le_0, le_0, le_e (congrArg (fun z => PV.val (.int .i64 z)) (wrapI _ (by omega) (by omega))), trivial⟩)
      · have hi : i = R.length := by
          have := of_decide_eq_false h
          omega
        exact at0 () trivial ⟨le_0, le_0, le_0, trivial⟩
    rintro ⟨⟩ -
    have hc : decide ((R.length : Int) < ((normN p a).length : Int)) = true := decide_eq_true (by omega)
    refine ev_rs [u64s (normN p a), Vinc.bool true] rfl (by repeat' (first | exact trivial | exact gd_t | exact gd_f | exact .inl (RNorm_spec hm a (by omega)) | exact .inl awake11_spec | exact (fun _ => rfl) | intro _ | apply And.intro | assumption | exact rfl | exact gd_t (by assumption) | exact gd_f (by assumption) | exact gd_a (by assumption) (by assumption) | exact gd_b (by assumption) (by assumption))) (ev_ret (ret1 (fz_p (PLe.of_eq (congrArg Vinc.bool ?_)))))
    show (bif decide ((R.length : Int) < ((normN p a).length : Int)) then true else false) = true
    rw [hc]; rfl

end Go.Proofs

/- The laws of roots: squares. -/
set_option linter.unusedVariables false
namespace Go.Proofs
open Go Vinc Vinc.Num

theorem minI (x y : Nat) : (if (y : Int) < (x : Int) then (y : Int) else (x : Int)) = ((if y < x then y else x : Nat) : Int) := by
  by_cases h : y < x
  · rw [if_pos h, if_pos (by omega)]
  · rw [if_neg h, if_neg (by omega)]

theorem maxI (x y : Nat) : (if (y : Int) > (x : Int) then (y : Int) else (x : Int)) = ((if y > x then y else x : Nat) : Int) := by
  by_cases h : y > x
  · rw [if_pos h, if_pos (by omega)]
  · rw [if_neg h, if_neg (by omega)]

theorem sq_norm {p : Nat} (hp : 1 < p) (s : Nat) : 0 < (normN p [s, 0, 1]).length := by
  rcases Nat.eq_zero_or_pos (normN p [s, 0, 1]).length with e | e
  · exfalso
    have h0 : normN p [s, 0, 1] = [] := List.eq_nil_of_length_eq_zero e
    have h1 : (normN p [s, 0, 1]).getD 2 0 = 1 % p := by
      unfold normN
      rw [getD_trim]
      rfl
    rw [h0, Nat.mod_eq_of_lt hp] at h1
    cases h1
  · exact e

theorem allP_one {p : Nat} {seeds : List Nat} (x : Nat) : AllP p [x] seeds := fun i hi k hk => by
  have : i < 1 := hi
  omega

set_option maxRecDepth 20000 in
theorem RootsSquares_spec (p x : Nat) (seeds : List Nat) (hp : p < 18446744073709551616) : CallSpec Tryd.pr.P Tryd.pr.G 5 [u64 p, u64 x, u64s seeds] (Vinc.bool true) := by
  refine callSpec_of Tryd.pr Tryd.func5 rfl rfl rfl fun w0 ok0 hok hG => ?_
  refine ev_rs [] rfl trivial ?_
  by_cases hA : ¬ Asked p
  · refine ev_seq (ev_rs [Vinc.bool false] rfl (by repeat' (first | exact trivial | exact gd_t | exact gd_f | exact .inl (LawPrime_f hA) | exact (fun _ => rfl) | intro _ | apply And.intro | assumption | exact rfl | exact gd_t (by assumption) | exact gd_f (by assumption) | exact gd_a (by assumption) (by assumption) | exact gd_b (by assumption) (by assumption))) (ev_ct (congrArg (fun z => AV.p (PV.val (.bool z))) (show (bif (bif decide ((seeds.length : Int) > 60) then true else !false) then true else ((p : Int) == 2)) = true by cases decide ((seeds.length : Int) > 60) <;> rfl)) ?_))
    exact ev_rs [Vinc.bool true] rfl ⟨.inl awake11_spec, trivial⟩ (ev_ret (ret1 (fz_p (PLe.refl _))))
  have hA : Asked p := Classical.byContradiction hA
  have hm := asked_may hA
  have hf := asked_fd hA
  have hp0 := hf.pos
  have hp1 := hf.prime.1
  refine ev_seq (ev_rs [Vinc.bool true] rfl (by repeat' (first | exact trivial | exact gd_t | exact gd_f | exact .inl (LawPrime_t hA) | exact (fun _ => rfl) | intro _ | apply And.intro | assumption | exact rfl | exact gd_t (by assumption) | exact gd_f (by assumption) | exact gd_a (by assumption) (by assumption) | exact gd_b (by assumption) (by assumption))) (ev_cond rfl (fun h => ?_) (fun h => ev_sk ?_)))
  · exact ev_rs [Vinc.bool true] rfl ⟨.inl awake11_spec, trivial⟩ (ev_ret (ret1 (fz_p (PLe.refl _))))
  obtain ⟨g1, _, g3⟩ := or3_f _ _ _ h
  have hl2 : seeds.length ≤ 60 := by have := of_decide_eq_false g1; omega
  have h2 : p ≠ 2 := fun e => by
    rw [eq2_t e] at g3
    cases g3
  have hpz : ((p : Nat) : Int) ≠ 0 := by omega
  obtain ⟨X, hX⟩ : ∃ X, x % p = X := ⟨_, rfl⟩
  have hXp : X < p := by rw [← hX]; exact Nat.mod_lt _ hp0
  have hp63 := hm.2
  refine ev_rs [] rfl (by repeat' (first | exact trivial | exact gd_t | exact gd_f | exact hpz | exact (fun _ => rfl) | intro _ | apply And.intro | assumption | exact rfl | exact gd_t (by assumption) | exact gd_f (by assumption) | exact gd_a (by assumption) (by assumption) | exact gd_b (by assumption) (by assumption))) ?_
  refine ev_n 1 X rfl (show (x : Int).tmod (p : Int) = (X : Int) from by rw [← hX]; rfl) ?_
  obtain ⟨s, hs⟩ : ∃ s, sb 0 (X * X % p) p = s := ⟨_, rfl⟩
  have hMu := RefMul_spec hm X X (by omega)
  have hSu : CallSpec Tryd.pr.P Tryd.pr.G 18 [u64 0, u64 (X * X % p), u64 p] (u64 s) := by rw [← hs]; exact RefSub_spec hm 0 _
  refine ev_at (α := Unit) (fun _ => True) (fun _ => [(0, .p (u64 p)), (1, .p (u64 X)), (2, .p (u64s seeds)), (7, .p (u64s [s, 0, 1]))]) (fun _ => []) ?_ ?_
  · refine ev_region [u64 (X * X % p), u64 s] rfl (by repeat' (first | exact trivial | exact gd_t | exact gd_f | exact .inl hMu | exact .inl hSu | exact (fun _ => rfl) | intro _ | apply And.intro | assumption | exact rfl | exact gd_t (by assumption) | exact gd_f (by assumption) | exact gd_a (by assumption) (by assumption) | exact gd_b (by assumption) (by assumption))) (at0 () trivial ⟨le_0, le_0, le_0, le_freeze ren_nil rfl (Nat.le_refl 3) (fun k hk => by cases hk) (fun j hj => ?_), trivial⟩)
    match j, hj with
    | 0, _ => exact le_refl ren_nil _
    | 1, _ => exact le_refl ren_nil _
    | 2, _ => exact le_refl ren_nil _
  rintro ⟨⟩ -
  have h0 := sq_norm hp1 s
  have hS := sorts_few (R := rootsN p [s, 0, 1]) (by have := roots_few hf h0; have e : [s, 0, 1].length = 3 := rfl; omega)
  have hSy : CallSpec Tryd.pr.P Tryd.pr.G 18 [u64 0, u64 X, u64 p] (u64 (sb 0 X p)) := RefSub_spec hm 0 _
  by_cases hX0 : X = 0
  · subst hX0
    have hR := Roots_told hA [s, 0, 1] seeds (show (3 : Nat) ≤ 500 by decide) h0 (by omega) hS (by rw [← hs, sq_zero hf]; exact allP_one 0)
    rw [show rootsN p [s, 0, 1] = [0] by rw [← hs]; exact sq_zero hf] at hR
    have hSm := same_t [0] (by decide)
    refine ev_rs [.tup 2 (two (u64s [0]) (i64 0))] rfl ⟨.inl hR, trivial⟩ ?_
    refine ev_seq (ev_rs [] rfl trivial (ev_cf rfl (ev_sk ?_)))
    refine ev_rs [u64 (sb 0 0 p)] rfl ⟨.inl hSy, trivial⟩ ?_
    refine ev_seq (ev_rs [] rfl (by repeat' (first | exact trivial | exact gd_t | exact gd_f | exact (fun _ => rfl) | intro _ | apply And.intro | assumption | exact rfl | exact gd_t (by assumption) | exact gd_f (by assumption) | exact gd_a (by assumption) (by assumption) | exact gd_b (by assumption) (by assumption))) (ev_ct rfl ?_))
    exact ev_rs [Vinc.bool true, Vinc.bool true] rfl (by repeat' (first | exact trivial | exact gd_t | exact gd_f | exact Nat.le_refl 1 | exact .inl awake11_spec | exact .inl (callSpec_args (as' := [u64s [0], u64s [0]]) ⟨PLe.refl _, PLe.lit1 rfl, trivial⟩ hSm) | exact (fun _ => rfl) | intro _ | apply And.intro | assumption | exact rfl | exact gd_t (by assumption) | exact gd_f (by assumption) | exact gd_a (by assumption) (by assumption) | exact gd_b (by assumption) (by assumption))) (ev_ret (ret1 (fz_p (PLe.of_eq rfl))))
  · have hXpos : 0 < X := by omega
    have hXb : ((X : Int) == 0) = false := beq_eq_false_iff_ne.mpr (by omega)
    have hXn : ((X : Int) != 0) = true := bne_iff_ne.mpr (by omega)
    by_cases hall : AllP p (rootsN p [s, 0, 1]) seeds
    · have hR := Roots_told hA [s, 0, 1] seeds (show (3 : Nat) ≤ 500 by decide) h0 (by omega) hS hall
      have hq := sq_two hf h2 hXpos hXp
      rw [hs, ← sb_pos hXpos hXp] at hq
      rw [hq] at hR
      obtain ⟨y, hy⟩ : ∃ y, sb 0 X p = y := ⟨_, rfl⟩
      rw [hy] at hR hSy
      obtain ⟨m1, hm1⟩ : ∃ m1, (if y < X then y else X) = m1 := ⟨_, rfl⟩
      obtain ⟨m2, hm2⟩ : ∃ m2, (if y > X then y else X) = m2 := ⟨_, rfl⟩
      have hi1 := minI X y
      have hi2 := maxI X y
      rw [hm1] at hR hi1
      rw [hm2] at hR hi2
      have hSm := same_t [m1, m2] (show (2 : Nat) < 1000000 by decide)
      refine ev_rs [.tup 2 (two (u64s [m1, m2]) (i64 0))] rfl ⟨.inl hR, trivial⟩ ?_
      refine ev_seq (ev_rs [] rfl trivial (ev_cf rfl (ev_sk ?_)))
      refine ev_rs [u64 y] rfl ⟨.inl hSy, trivial⟩ ?_
      refine ev_seq (ev_rs [] rfl (by repeat' (first | exact trivial | exact gd_t | exact gd_f | exact (fun _ => rfl) | intro _ | apply And.intro | assumption | exact rfl | exact gd_t (by assumption) | exact gd_f (by assumption) | exact gd_a (by assumption) (by assumption) | exact gd_b (by assumption) (by assumption))) (ev_cf (congrArg (fun z => AV.p (PV.val (.bool z))) (show (bif false then true else ((X : Int) == 0)) = false by rw [hXb]; rfl)) (ev_sk ?_)))
      exact ev_rs [Vinc.bool true, Vinc.bool true] rfl (by repeat' (first | exact trivial | exact gd_t | exact gd_f | exact Nat.le_refl 2 | exact .inl awake11_spec | exact .inl (callSpec_args (as' := [u64s [m1, m2], u64s [m1, m2]]) ⟨PLe.refl _, PLe.lit2 (congrArg (fun z => PV.val (.int .u64 z)) hi1) (congrArg (fun z => PV.val (.int .u64 z)) hi2), trivial⟩ hSm) | exact (fun _ => rfl) | intro _ | apply And.intro | assumption | exact rfl | exact gd_t (by assumption) | exact gd_f (by assumption) | exact gd_a (by assumption) (by assumption) | exact gd_b (by assumption) (by assumption))) (ev_ret (ret1 (fz_p (PLe.of_eq rfl))))
    · have hR : CallSpec Tryd.pr.P Tryd.pr.G 8 [u64 p, u64s [s, 0, 1], u64s seeds] (.tup 2 (two (u64s []) (i64 12))) := callSpec_res (PLe.two2 PLe.nil (PLe.refl _)) (Roots_untold hA [s, 0, 1] seeds (show (3 : Nat) ≤ 500 by decide) h0 (by omega) hS hall)
      refine ev_rs [.tup 2 (two (u64s []) (i64 12))] rfl ⟨.inl hR, trivial⟩ ?_
      refine ev_seq (ev_rs [] rfl trivial (ev_ct rfl ?_))
      refine ev_rs [Vinc.bool true] rfl (by repeat' (first | exact trivial | exact gd_t | exact gd_f | exact .inl awake11_spec | exact (fun _ => rfl) | intro _ | apply And.intro | assumption | exact rfl | exact gd_t (by assumption) | exact gd_f (by assumption) | exact gd_a (by assumption) (by assumption) | exact gd_b (by assumption) (by assumption))) (ev_ret (ret1 (fz_p (PLe.of_eq (congrArg Vinc.bool ?_)))))
      show (bif (bif ((X : Int) != 0) then true else false) then true else false) = true
      rw [hXn]; rfl

end Go.Proofs
