/- Part 6 of the proof's texts, joined: R4, R5, R6, R7, R8, S3, S4, S5, S6, R9. -/
import Derived.Test.YtmfmgcnliihidaaDoorB5

/- roots, walked: all roots. -/
set_option linter.unusedVariables false
namespace Go.Proofs
open Go Vinc Vinc.Num

set_option maxRecDepth 40000 in
theorem Roots_bad {p : Nat} {a seeds : List Nat} {e : Nat} (he : e ≠ 0) (h : CallSpec Tryd.pr.P Tryd.pr.G 9 [u64 p, u64s a] (.tup 2 (two nilS (i64 e)))) : CallSpec Tryd.pr.P Tryd.pr.G 8 [u64 p, u64s a, u64s seeds] (.tup 2 (two nilS (i64 e))) := by
  have hc : ((e : Int) != 0) = true := bne_iff_ne.mpr fun h => he (Int.ofNat_inj.mp h)
  refine callSpec_of Tryd.pr Tryd.func8 rfl rfl rfl fun w0 ok0 hok hG => ?_
  refine ev_rs [] rfl trivial ?_
  refine ev_rs [.tup 2 (two nilS (i64 e))] rfl ⟨.inl h, trivial⟩ ?_
  refine ev_seq (ev_rs [] rfl trivial (ev_ct (congrArg (fun z => AV.p (PV.val (.bool z))) hc) ?_))
  exact ev_rs [] rfl trivial (ev_ret (ret2 (fz_p (PLe.refl _)) (fz_p (PLe.refl _))))

set_option maxRecDepth 40000 in
theorem Roots_two (hm : MayM 2) (hb : isB 2 = true) (hf : FdP 2 (minv 2)) (a seeds : List Nat) (hl : a.length ≤ 500) (h0 : 0 < (normN 2 a).length) : CallSpec Tryd.pr.P Tryd.pr.G 8 [u64 2, u64s a, u64s seeds] (.tup 2 (two (u64s (rootsN 2 a)) (i64 0))) := by
  refine callSpec_of Tryd.pr Tryd.func8 rfl rfl rfl fun w0 ok0 hok hG => ?_
  refine ev_rs [] rfl trivial ?_
  refine ev_rs [.tup 2 (two (u64s (prodF 2 (rootsN 2 a))) (i64 0))] rfl ⟨.inl (Linear_ok hm hb hf a hl h0), trivial⟩ ?_
  refine ev_seq (ev_rs [] rfl trivial (ev_cf rfl (ev_sk ?_)))
  refine ev_rs [.tup 3 (three (polyF 2) (newF 2) (i64 0))] rfl ⟨.inl (RtFields_ok hm hb), trivial⟩ ?_
  refine ev_seq (ev_rs [] rfl (by repeat' (first | exact trivial | exact gd_t | exact gd_f | exact (fun _ => rfl) | intro _ | apply And.intro | assumption | exact rfl | exact gd_t (by assumption) | exact gd_f (by assumption) | exact gd_a (by assumption) (by assumption) | exact gd_b (by assumption) (by assumption))) (ev_ct rfl ?_))
  exact ev_rs [u64s (rootsN 2 a)] rfl ⟨.inl (small_spec hm a (by omega)), trivial⟩ (ev_ret (ret2 (fz_p (PLe.refl _)) (fz_p (PLe.refl _))))

set_option maxRecDepth 40000 in
set_option maxHeartbeats 4000000 in
theorem Roots_any {p : Nat} (hm : MayM p) (hb : isB p = true) (hf : FdP p (minv p)) (h2 : p ≠ 2) (a seeds : List Nat) (hl : a.length ≤ 500) (h0 : 0 < (normN p a).length) (hsl : seeds.length < 100000)
    (hsort : ∀ xs : List Nat, xs.Perm (rootsN p a) → CallSpecX Tryd.pr.P Tryd.pr.G 29 [.own 900 0 xs.length 1] [(900, ob64 xs)] [(900, ob64 (sortN xs))] (.p (.val (.tuple #[])))) (res : PV)
    (hr1 : (∀ T ∈ partsP p (rootsN p a) seeds seeds.length, T.length ≤ 1) → res = .tup 2 (two (u64s (rootsN p a)) (i64 0)))
    (hr2 : (∃ T ∈ partsP p (rootsN p a) seeds seeds.length, 1 < T.length) → res = .tup 2 (two nilS (i64 12))) :
    CallSpec Tryd.pr.P Tryd.pr.G 8 [u64 p, u64s a, u64s seeds] res := by
  have hp := hf.pos
  have hp1 := hf.prime.1
  have hbl : ∀ Q : List Nat, (prodF p Q).length = Q.length + 1 := fun Q => (prodF_len hp1 Q).1
  have hbn : ∀ Q : List Nat, normN p (prodF p Q) = prodF p Q := fun Q => (Nz.prodF hp1 Q).norm_id hp
  have hln := length_normN p a
  have hLin := Linear_ok hm hb hf a hl h0
  obtain ⟨R, hR⟩ : ∃ R, rootsN p a = R := ⟨_, rfl⟩
  have hRl : R.length < 500 := by
    rw [← hR, ← rootsN_norm hp]
    have := rootsN_len hf (Nz.norm hp a) h0
    omega
  have hRd : Dist p R := by rw [← hR]; exact rootsN_dist p a
  have hRlt : ∀ x ∈ R, x < p := fun x hx => by rw [← hR] at hx; exact (mem_rootsN.mp hx).1
  have hRs : ∀ l : List Nat, l.Perm R → sortN l = R := fun l h => by rw [← hR] at h ⊢; exact rootsN_sort h
  rw [hR] at hLin hsort hr1 hr2
  obtain ⟨Q, hQ⟩ : ∃ Q : Nat → List (List Nat), Q = fun i => (partsP p R seeds i).map (prodF p) := ⟨_, rfl⟩
  have hQl : ∀ i, (Q i).length = (partsP p R seeds i).length := fun i => by rw [hQ]; exact List.length_map _
  have hQb : ∀ i, (Q i).length ≤ 500 := fun i => by rw [hQl]; have := parts_bound (p := p) (R := R) (seeds := seeds) i; omega
  have hQ0 : Q 0 = [prodF p R] := by rw [hQ]; rfl
  have hQg : ∀ i k, k < (Q i).length → (Q i).getD k [] = prodF p ((partsP p R seeds i).getD k []) := fun i k hk => by
    rw [hQl] at hk
    rw [hQ]
    exact getD_mapP _ _ hk
  have hPl : ∀ i k, k < (Q i).length → ((partsP p R seeds i).getD k []).length < 500 := fun i k hk => by
    rw [hQl] at hk
    have := (parts_sub (getD_mem hk)).length_le
    omega
  have hc2 : ((p : Int) == 2) = false := eq2_f h2
  refine callSpec_of Tryd.pr Tryd.func8 rfl rfl rfl fun w0 ok0 hok hG => ?_
  refine ev_rs [] rfl trivial ?_
  refine ev_rs [.tup 2 (two (u64s (prodF p R)) (i64 0))] rfl ⟨.inl hLin, trivial⟩ ?_
  refine ev_seq (ev_rs [] rfl trivial (ev_cf rfl (ev_sk ?_)))
  refine ev_rs [.tup 3 (three (polyF p) (newF p) (i64 0))] rfl ⟨.inl (RtFields_ok hm hb), trivial⟩ ?_
  refine ev_seq (ev_rs [] rfl (by repeat' (first | exact trivial | exact gd_t | exact gd_f | exact (fun _ => rfl) | intro _ | apply And.intro | assumption | exact rfl | exact gd_t (by assumption) | exact gd_f (by assumption) | exact gd_a (by assumption) (by assumption) | exact gd_b (by assumption) (by assumption))) (ev_cf (congrArg (fun z => AV.p (PV.val (.bool z))) hc2) (ev_sk ?_)))
  refine ev_rs [] rfl (by repeat' (first | exact trivial | exact gd_t | exact gd_f | exact (fun _ => rfl) | intro _ | apply And.intro | assumption | exact rfl | exact gd_t (by assumption) | exact gd_f (by assumption) | exact gd_a (by assumption) (by assumption) | exact gd_b (by assumption) (by assumption))) (ev_obs 49 (obP [prodF p R]) rfl rfl (fun j hj => ?_) ?_)
  · match j, hj with
    | 0, _ => rfl
  refine ev_at (α := Unit) (fun _ => True) (fun _ => [(10, .p (polyF p)), (11, .p (newF p)), (12, .own 12 0 (Q seeds.length).length 1)]) (fun _ => [(12, obP (Q seeds.length))]) ?_ ?_
  · refine ev_rs [] rfl trivial ?_
    refine ev_block (ev_while (α := Nat) (fun i => i ≤ seeds.length) (fun i => [(10, .p (polyF p)), (11, .p (newF p)), (12, .own 12 0 (Q i).length 1), (50, .p (u64s seeds)), (51, .p (i64 seeds.length)), (52, .p (i64 i))]) (fun i => [(12, obP (Q i))]) (fun i => seeds.length - i) 0
      (Nat.zero_le _) (wk_P 49 (by rw [hQ0]; rfl) (fun hd => ⟨le_refl hd _, le_refl hd _, le_r1 rfl (by rw [hQ0]; rfl), le_refl hd _, le_refl hd _, le_refl hd _, trivial⟩)) ?_)
    rintro i hi0
    refine ev_rs [] rfl trivial ?_
    refine ev_seq (ev_cond rfl (fun h => ev_sk ?_) (fun h => ev_exit ?_))
    · have hi : i < seeds.length := Int.ofNat_lt.mp (of_decide_eq_true h)
      have i0 : (0 : Int) ≤ (i : Int) := by omega
      have i1 : (i : Int) < (seeds.length : Int) := by omega
      obtain ⟨Y, hY⟩ : ∃ Y : Nat → List (List Nat), Y = fun k => (nextP (hiB p (seeds.getD i 0)) (partsP p R seeds i) k).map (prodF p) := ⟨_, rfl⟩
      have hYl : ∀ k, k ≤ (Q i).length → (Y k).length ≤ 500 := fun k hk => by
        rw [hQl] at hk
        rw [hY]
        dsimp only
        rw [List.length_map]
        have := nextP_bound (p := p) (R := R) (seeds := seeds) hk
        omega
      have hY0 : Y 0 = [] := by rw [hY]; rfl
      have hYn : Y (Q i).length = Q (i + 1) := by rw [hQl, hY, hQ]; rfl
      have hYs : ∀ k, Y (k + 1) = Y k ++ (stepP (hiB p (seeds.getD i 0)) ((partsP p R seeds i).getD k [])).map (prodF p) := fun k => by
        rw [hY]
        exact List.map_append
      refine ev_seq (ev_block ?_)
      refine ev_rs [] rfl (by repeat' (first | exact trivial | exact gd_t | exact gd_f | exact hi | exact i0 | exact i1 | exact (fun _ => rfl) | intro _ | apply And.intro | assumption | exact rfl | exact gd_t (by assumption) | exact gd_f (by assumption) | exact gd_a (by assumption) (by assumption) | exact gd_b (by assumption) (by assumption))) ?_
      refine ev_rs [] rfl trivial (ev_nilob 15 15 (obP []) rfl rfl rfl ?_)
      refine ev_at (α := Unit) (fun _ => True) (fun _ => [(10, .p (polyF p)), (11, .p (newF p)), (12, .own 12 0 (Q i).length 1), (15, .own 15 0 (Q (i + 1)).length 1), (50, .p (u64s seeds)), (51, .p (i64 seeds.length)), (52, .p (i64 i))]) (fun _ => [(12, obP (Q i)), (15, obP (Q (i + 1)))]) ?_ ?_
      · refine ev_rs [] rfl trivial ?_
        refine ev_block (ev_while (α := Nat) (fun k => k ≤ (Q i).length) (fun k => [(10, .p (polyF p)), (11, .p (newF p)), (12, .own 12 0 (Q i).length 1), (14, .p (u64 (seeds.getD i 0))), (15, .own 15 0 (Y k).length 1), (50, .p (u64s seeds)), (51, .p (i64 seeds.length)), (52, .p (i64 i)), (56, .own 12 0 (Q i).length 1), (57, .p (i64 (Q i).length)), (58, .p (i64 k))]) (fun k => [(12, obP (Q i)), (15, obP (Y k))]) (fun k => (Q i).length - k) 0
          (Nat.zero_le _) (wk_P2 12 15 rfl rfl rfl (by rw [hY0]; rfl) (fun hd => ⟨le_refl hd _, le_refl hd _, le_r2a rfl rfl, le_refl hd _, le_r2b rfl rfl (by rw [hY0]; rfl), le_refl hd _, le_refl hd _, le_refl hd _, le_r2a rfl rfl, le_refl hd _, le_refl hd _, trivial⟩)) ?_)
        rintro k hk0
        have hQbi := hQb i
        refine ev_rs [] rfl trivial ?_
        refine ev_seq (ev_cond rfl (fun h => ev_sk ?_) (fun h => ev_exit ?_))
        · have hk : k < (Q i).length := Int.ofNat_lt.mp (of_decide_eq_true h)
          have k0 : (0 : Int) ≤ (k : Int) := by omega
          have k1 : (k : Int) < ((Q i).length : Int) := by omega
          have hPg := hQg i k hk
          have hPlen := hPl i k hk
          have hkP : k < (partsP p R seeds i).length := by rw [← hQl]; exact hk
          have hPd : Dist p ((partsP p R seeds i).getD k []) := parts_dist hRd (getD_mem hkP)
          have hYk := hYl k hk0
          have hYk1 := hYl (k + 1) hk
          have hst := hYs k
          obtain ⟨P, hP⟩ : ∃ P, (partsP p R seeds i).getD k [] = P := ⟨_, rfl⟩
          rw [hP] at hPg hPlen hPd hst
          obtain ⟨b, hbk⟩ : ∃ b, (Q i).getD k [] = b := ⟨_, rfl⟩
          have hbP : b = prodF p P := by rw [← hbk, hPg]
          have hDg := Deg_spec hm b (by rw [hbP, hbl]; omega)
          rw [hbP, hbn, hbl, ← hbP] at hDg
          have hkw : IntKind.wrap .i64 ((k : Int) + 1) = ((k + 1 : Nat) : Int) := wrapI _ (by omega) (by omega)
          refine ev_seq (ev_block ?_)
          refine ev_rs [] rfl (by repeat' (first | exact trivial | exact gd_t | exact gd_f | exact hk | exact k0 | exact k1 | exact (fun _ => rfl) | intro _ | apply And.intro | assumption | exact rfl | exact gd_t (by assumption) | exact gd_f (by assumption) | exact gd_a (by assumption) (by assumption) | exact gd_b (by assumption) (by assumption))) ?_
          refine ev_eq 17 (.p (u64s b)) (by rw [← hbk]; rfl) ?_
          refine ev_seq (ev_rs [i64 (((P.length + 1 : Nat) : Int) - 1)] rfl ⟨.inl hDg, trivial⟩ (ev_cond rfl (fun h => ?_) (fun h => ev_sk ?_)))
          · have hz : P.length ≤ 1 := by
              have := of_decide_eq_true h
              omega
            have hst : Y k ++ [b] = Y (k + 1) := by
              rw [hst]
              unfold stepP
              rw [if_pos hz, hbP]; rfl
            refine ev_rs [] rfl ⟨⟨by omega, rfl, Nat.le_refl 1⟩, trivial⟩ (ev_appP 15 69 (Y k) [b] rfl rfl rfl rfl rfl (fun j hj => rfl) (fun j hj => ?_) (ev_exit ?_))
            · match j, hj with
              | 0, _ => rfl
            exact ev_region [] rfl trivial ⟨k + 1, hk, by dsimp only; omega, wk_P2 12 69 rfl rfl rfl (congrArg (fun l => some (obP l)) hst) (fun hd => ⟨le_refl hd _, le_refl hd _, le_r2a rfl rfl, le_refl hd _, le_r2b rfl rfl (by rw [hst]), le_refl hd _, le_refl hd _, le_refl hd _, le_r2a rfl rfl, le_refl hd _, le_n hd (congrArg (fun z => PV.val (.int .i64 z)) hkw), trivial⟩)⟩
          · have hz : ¬ P.length ≤ 1 := by
              have := of_decide_eq_false h
              omega
            obtain ⟨Cs, hCs⟩ : ∃ Cs, (cutP (hiB p (seeds.getD i 0)) P).map (prodF p) = Cs := ⟨_, rfl⟩
            have hst : Y k ++ Cs = Y (k + 1) := by
              rw [hst]
              unfold stepP
              rw [if_neg hz, hCs]
            have hYl2 : (Y k).length + Cs.length ≤ 500 := by
              rw [← hst, List.length_append] at hYk1
              exact hYk1
            have hSp := split_ok hm hf P hPd (by omega) (seeds.getD i 0)
            rw [hCs, ← hbP] at hSp
            refine ev_rs [.tup 2 (two (plS Cs) (i64 0))] rfl ⟨.inl hSp, trivial⟩ ?_
            refine ev_seq (ev_rs [] rfl trivial (ev_cf rfl (ev_sk ?_)))
            refine ev_region [] rfl ⟨⟨by omega, rfl, trivial⟩, trivial⟩ (ev_appP 15 82 (Y k) Cs rfl rfl rfl rfl rfl (fun j hj => rfl) (fun j hj => rfl) ?_)
            exact ev_region [] rfl trivial ⟨k + 1, hk, by dsimp only; omega, wk_P2 12 82 rfl rfl rfl (congrArg (fun l => some (obP l)) hst) (fun hd => ⟨le_refl hd _, le_refl hd _, le_r2a rfl rfl, le_refl hd _, le_r2b rfl rfl (by rw [hst]), le_refl hd _, le_refl hd _, le_refl hd _, le_r2a rfl rfl, le_refl hd _, le_n hd (congrArg (fun z => PV.val (.int .i64 z)) hkw), trivial⟩)⟩
        · have hk : k = (Q i).length := by
            have := of_decide_eq_false h
            omega
          subst hk
          exact at_wk () trivial (wk_P2 12 15 rfl rfl rfl (congrArg (fun l => some (obP l)) hYn) (fun hd => ⟨le_refl hd _, le_refl hd _, le_r2a rfl rfl, le_r2b rfl rfl (by rw [hYn]), le_refl hd _, le_refl hd _, le_refl hd _, trivial⟩))
      rintro ⟨⟩ -
      refine ev_rs [] rfl ⟨Nat.le_of_eq (Nat.zero_add _), trivial⟩ ?_
      refine ev_region [] rfl trivial ?_
      exact ev_region [] rfl trivial ⟨i + 1, hi, by dsimp only; omega, wk_P 15 rfl (fun hd => ⟨le_refl hd _, le_refl hd _, le_r1 rfl rfl, le_refl hd _, le_refl hd _, le_n hd (congrArg (fun z => PV.val (.int .i64 z)) (wrapI _ (by omega) (by omega))), trivial⟩)⟩
    · have hi : i = seeds.length := by
        have := of_decide_eq_false h
        omega
      subst hi
      exact at_wk () trivial (wk_P 12 rfl (fun hd => ⟨le_refl hd _, le_refl hd _, le_r1 rfl rfl, trivial⟩))
  rintro ⟨⟩ -
  obtain ⟨n, hn⟩ : ∃ n, (Q seeds.length).length = n := ⟨_, rfl⟩
  obtain ⟨Ps, hPs⟩ : ∃ Ps, partsP p R seeds seeds.length = Ps := ⟨_, rfl⟩
  have hnP : n = Ps.length := by rw [← hn, hQl, hPs]
  have hQg' := hQg seeds.length
  have hPl' := hPl seeds.length
  have hQbn := hQb seeds.length
  have hflat := parts_flat p R seeds seeds.length
  have hPlt : ∀ T ∈ Ps, ∀ x ∈ T, x < p := fun T hT x hx => by
    rw [← hPs] at hT
    exact hRlt x ((parts_sub hT).subset hx)
  rw [hn] at hQg' hPl' hQbn ⊢
  rw [hPs] at hQg' hPl' hr1 hr2 hflat
  have hFl : ∀ k, k ≤ n → (flatK Ps k).length ≤ 500 := fun k hk => by
    have h1 := flatK_len Ps (k := k) (by omega)
    have h2 := hflat.length_eq
    omega
  have hFn : (flatK Ps n).Perm R := by
    rw [flatK_eq Ps n (by omega), hnP, List.take_length]
    exact hflat
  obtain ⟨Qs, hQs⟩ : ∃ Qs, Q seeds.length = Qs := ⟨_, rfl⟩
  rw [hQs] at hQg' hn ⊢
  subst hn
  refine ev_rs [] rfl trivial (ev_nilown 20 900 rfl rfl ?_)
  refine ev_at (α := Unit) (fun _ => ∀ T ∈ Ps, T.length ≤ 1) (fun _ => [(20, .own 900 0 (flatK Ps Qs.length).length 1)]) (fun _ => [(900, ob64 (flatK Ps Qs.length))]) ?_ ?_
  · refine ev_rs [] rfl trivial ?_
    refine ev_block (ev_while (α := Nat) (fun k => k ≤ Qs.length ∧ ∀ j, j < k → (Ps.getD j []).length ≤ 1) (fun k => [(10, .p (polyF p)), (11, .p (newF p)), (20, .own 900 0 (flatK Ps k).length 1), (87, .p (plS Qs)), (88, .p (i64 Qs.length)), (89, .p (i64 k))]) (fun k => [(900, ob64 (flatK Ps k))]) (fun k => Qs.length - k) 0
      ⟨Nat.zero_le _, fun j hj => absurd hj (Nat.not_lt_zero _)⟩ (wk_ob rfl (fun hd => ⟨le_refl hd _, le_refl hd _, le_o rfl, le_freeze hd (o := obP Qs) rfl (by show 0 + Qs.length * 1 ≤ Qs.length; omega) (fun k hk => ?_) (fun j hj => ?_), le_refl hd _, le_refl hd _, trivial⟩)) ?_)
    · have := hOf_mem k hk
      simp at this
      subst this
      exact (by decide : (900 : Nat) ≠ 12)
    · show Le _ _ _ _ (.p (u64s (Qs.getD (0 + j) []))) _
      rw [Nat.zero_add]
      exact le_refl hd _
    rintro k ⟨hk0, hle⟩
    refine ev_rs [] rfl trivial ?_
    refine ev_seq (ev_cond rfl (fun h => ev_sk ?_) (fun h => ev_exit ?_))
    · have hk : k < Qs.length := Int.ofNat_lt.mp (of_decide_eq_true h)
      have k0 : (0 : Int) ≤ (k : Int) := by omega
      have k1 : (k : Int) < (Qs.length : Int) := by omega
      have hPg := hQg' k hk
      have hPlen := hPl' k hk
      have hFk := hFl k hk0
      have hmem : Ps.getD k [] ∈ Ps := getD_mem (by omega)
      have hPx := hPlt _ hmem
      have hst : flatK Ps (k + 1) = flatK Ps k ++ Ps.getD k [] := rfl
      obtain ⟨P, hP⟩ : ∃ P, Ps.getD k [] = P := ⟨_, rfl⟩
      rw [hP] at hPg hPlen hmem hPx hst
      obtain ⟨b, hbk⟩ : ∃ b, Qs.getD k [] = b := ⟨_, rfl⟩
      have hbP : b = prodF p P := by rw [← hbk, hPg]
      have hDg := Deg_spec hm b (by rw [hbP, hbl]; omega)
      rw [hbP, hbn, hbl, ← hbP] at hDg
      have hkw : IntKind.wrap .i64 ((k : Int) + 1) = ((k + 1 : Nat) : Int) := wrapI _ (by omega) (by omega)
      have hdeg : ((((P.length + 1 : Nat) : Int) - 1)) = (P.length : Int) := by omega
      rw [hdeg] at hDg
      refine ev_seq (ev_block ?_)
      refine ev_rs [] rfl (by repeat' (first | exact trivial | exact gd_t | exact gd_f | exact hk | exact k0 | exact k1 | exact (fun _ => rfl) | intro _ | apply And.intro | assumption | exact rfl | exact gd_t (by assumption) | exact gd_f (by assumption) | exact gd_a (by assumption) (by assumption) | exact gd_b (by assumption) (by assumption))) ?_
      refine ev_eq 22 (.p (u64s b)) (by rw [← hbk]; rfl) ?_
      refine ev_rs [i64 P.length] rfl ⟨.inl hDg, trivial⟩ ?_
      refine ev_block (ev_rs [] rfl trivial (ev_cond rfl (fun h => ev_skip ?_) (fun h => ?_)))
      · have hz : P.length = 0 := Int.ofNat_inj.mp (beq_iff_eq.mp h)
        have hPn : P = [] := List.eq_nil_of_length_eq_zero hz
        have hst : flatK Ps k = flatK Ps (k + 1) := by rw [hst, hPn, List.append_nil]
        exact ev_region [] rfl trivial ⟨k + 1, ⟨hk, fun j hj => by
          by_cases e : j = k
          · rw [e, hP]; omega
          · exact hle j (by omega)⟩, by dsimp only; omega, wk_ren (i' := 900) (congrArg (fun l => some (ob64 l)) hst) (fun hd => ⟨le_refl hd _, le_refl hd _, le_ren rfl (by rw [hst]), le_refl hd _, le_refl hd _, le_n hd (congrArg (fun z => PV.val (.int .i64 z)) hkw), trivial⟩)⟩
      · have hz : ¬ P.length = 0 := fun e => beq_eq_false_iff_ne.mp h (by rw [e]; rfl)
        refine ev_rs [] rfl trivial (ev_cond rfl (fun h => ?_) (fun h => ?_))
        · have hz1 : P.length = 1 := Int.ofNat_inj.mp (beq_iff_eq.mp h)
          obtain ⟨x, rfl⟩ : ∃ x, P = [x] := by
            match P, hz1 with
            | [x], _ => exact ⟨x, rfl⟩
          have hx : x < p := hPx x List.mem_cons_self
          have hMo := Monic_spec hm b (by rw [hbP, hbl]; exact (by decide : (1 + 1 : Nat) < 100000))
          have hbm : monicF (minv p) p (normN p b) = [sb 0 x p, 1] := by rw [hbP, monic_prod hf, prodF_one hp1]; rfl
          rw [hbm] at hMo
          have hSb := Sb_spec hm (b := bk p) (t := tw p) 0 (sb 0 x p)
          rw [sb_sb hx] at hSb
          refine ev_region [u64s [sb 0 x p, 1], u64 x] rfl (by repeat' (first | exact trivial | exact gd_t | exact gd_f | exact .inl hMo | exact .inl hSb | exact (by omega) | exact Nat.le_refl 1 | exact (by decide : (0 : Nat) < 2) | exact (by decide : (0 : Int) < 2) | exact (fun _ => rfl) | intro _ | apply And.intro | assumption | exact rfl | exact gd_t (by assumption) | exact gd_f (by assumption) | exact gd_a (by assumption) (by assumption) | exact gd_b (by assumption) (by assumption))) (ev_app 20 109 (flatK Ps k) [x] rfl rfl rfl rfl rfl (fun j hj => rfl) (fun j hj => ?_) ?_)
          · match j, hj with
            | 0, _ => rfl
          exact ev_region [] rfl trivial ⟨k + 1, ⟨hk, fun j hj => by
            by_cases e : j = k
            · rw [e, hP]; exact Nat.le_refl 1
            · exact hle j (by omega)⟩, by dsimp only; omega, wk_ren (i' := 109) (congrArg (fun l => some (ob64 l)) hst.symm) (fun hd => ⟨le_refl hd _, le_refl hd _, le_ren rfl (by rw [hst]), le_refl hd _, le_refl hd _, le_n hd (congrArg (fun z => PV.val (.int .i64 z)) hkw), trivial⟩)⟩
        · have hz1 : ¬ P.length = 1 := fun e => beq_eq_false_iff_ne.mp h (by rw [e]; rfl)
          rw [hr2 ⟨P, hmem, by omega⟩]
          exact ev_rs [] rfl trivial (ev_ret (ret2 (fz_p (PLe.refl _)) (fz_p (PLe.refl _))))
    · have hk : k = Qs.length := by
        have := of_decide_eq_false h
        omega
      subst hk
      refine at_ob () (fun T hT => ?_) rfl (fun hd => ⟨le_o rfl, trivial⟩)
      obtain ⟨j, hj, rfl⟩ := mem_getD' hT
      exact hle j (by omega)
  rintro ⟨⟩ hall
  have hS := hsort _ hFn
  rw [hRs _ hFn] at hS
  rw [hr1 hall]
  refine ev_rg [.x ⟨[.own 900 0 (flatK Ps Qs.length).length 1], [(900, ob64 (flatK Ps Qs.length))], [(900, ob64 R)], .p (.val (.tuple #[]))⟩] rfl ⟨⟨rfl, ⟨rfl, trivial⟩, hS⟩, trivial⟩ ?_
  exact ev_rs [] rfl trivial (ev_ret (ret2 (fz_ob' rfl hFn.length_eq rfl) (fz_p (PLe.refl _))))

end Go.Proofs

/- roots, walked: how often a number is a root; the chapter's examples. -/
set_option linter.unusedVariables false
namespace Go.Proofs
open Go Vinc Vinc.Num

theorem minv_one {p : Nat} (hp : 2 ≤ p) : minv p 1 = 1 := minv_eq hp (by rw [Nat.mul_one]; exact Nat.mod_eq_of_lt hp)

set_option maxRecDepth 40000 in
theorem Times_all {p : Nat} (hm : MayM p) (hb : isB p = true) (a : List Nat) (x : Nat) (hl : a.length ≤ 500) (h0 : 0 < (normN p a).length) : CallSpec Tryd.pr.P Tryd.pr.G 22 [u64 p, u64s a, u64 x] (.tup 2 (two (i64 (timF (minv p) p x (normN p a).length (normN p a))) (i64 0))) := by
  have hp1 : 1 < p := hm.1
  have hp : 0 < p := by omega
  have h1 := minv_one hm.1
  have hln := length_normN p a
  have hD := Deg_spec hm a (by omega)
  obtain ⟨T, hT⟩ : ∃ T, timF (minv p) p x (normN p a).length (normN p a) = T := ⟨_, rfl⟩
  rw [hT]
  refine callSpec_of Tryd.pr Tryd.func22 rfl rfl rfl fun w0 ok0 hok hG => ?_
  refine ev_rs [] rfl trivial ?_
  refine ev_rs [.tup 3 (three (polyF p) (newF p) (i64 0))] rfl ⟨.inl (RtFields_ok hm hb), trivial⟩ ?_
  refine ev_seq (ev_block (ev_rs [] rfl trivial (ev_cf rfl ?_)))
  refine ev_rs [i64 (((normN p a).length : Int) - 1)] rfl ⟨.inl hD, trivial⟩ (ev_cond rfl (fun h => ?_) (fun h => ev_skip ?_))
  · exfalso
    have := of_decide_eq_true h
    omega
  refine ev_rs [] rfl trivial ?_
  refine ev_at (α := Unit) (fun _ => True) (fun _ => [(11, .p (i64 T))]) (fun _ => []) ?_ ?_
  · refine ev_block (ev_while0 (α := Nat × Nat × List Nat) (fun q => 0 < (normN p q.2.2).length ∧ (normN p q.2.2).length ≤ q.2.1 ∧ q.2.2.length ≤ 500 ∧ q.1 + timF (minv p) p x q.2.1 (normN p q.2.2) = T ∧ q.1 + q.2.1 ≤ 500)
      (fun q => [(1, .p (u64s q.2.2)), (2, .p (u64 x)), (8, .p (polyF p)), (9, .p (newF p)), (11, .p (i64 q.1))]) (fun q => q.2.1) (0, (normN p a).length, a)
      ⟨h0, Nat.le_refl _, hl, by rw [← hT]; exact Nat.zero_add _, by dsimp only; omega⟩ ⟨le_0, le_0, le_0, le_0, le_0, trivial⟩ ?_)
    rintro ⟨n, f, c⟩ ⟨g1, g2, g3, g4, g5⟩
    dsimp only at g1 g2 g3 g4 g5
    have hev : evalN p x (normN p c) = evalN p x c := evalN_eq hp (ev_norm x c)
    obtain ⟨f, rfl⟩ : ∃ g, f = g + 1 := ⟨f - 1, by omega⟩
    refine ev_seq (ev_rs [u64 (evalN p x c)] rfl ⟨.inl (Eval_spec hm c x (by omega)), trivial⟩ (ev_cond rfl (fun h => ev_sk ?_) (fun h => ev_exit ?_)))
    · have hz : evalN p x c = 0 := Int.ofNat_inj.mp (beq_iff_eq.mp h)
      have hLs := RtLess_spec hm x
      have hLl : normN p (lin p x) = lin p x := (Nz.lin hp1 x).norm_id hp
      have hDv := DivM_ok hm c (lin p x) (by omega) (show (2 : Nat) < 100000 by decide) (by rw [hLl]; exact (by decide : 0 < 2))
      rw [hLl] at hDv
      obtain ⟨q1, q2, q3⟩ := lin_pos (iv := minv p) hp1 h1 (Nz.norm hp c) g1 (hev.trans hz)
      have ht : timF (minv p) p x (f + 1) (normN p c) = timF (minv p) p x f (divN (minv p) p (normN p c) (lin p x)).1 + 1 := if_pos (hev.trans hz)
      obtain ⟨qq, hqq⟩ : ∃ qq, (divN (minv p) p (normN p c) (lin p x)).1 = qq := ⟨_, rfl⟩
      obtain ⟨rr, hrr⟩ : ∃ rr, (divN (minv p) p (normN p c) (lin p x)).2 = rr := ⟨_, rfl⟩
      rw [hqq] at hDv q1 q2 q3 ht
      rw [hrr] at hDv
      have hqn := q3.norm_id hp
      have hlc := length_normN p c
      refine ev_block (ev_seq (ev_rs [u64s (lin p x), .tup 3 (three (u64s qq) (u64s rr) (i64 0))] rfl (by repeat' (first | exact trivial | exact gd_t | exact gd_f | exact .inl hLs | exact .inl hDv | exact (fun _ => rfl) | intro _ | apply And.intro | assumption | exact rfl | exact gd_t (by assumption) | exact gd_f (by assumption) | exact gd_a (by assumption) (by assumption) | exact gd_b (by assumption) (by assumption))) (ev_rs [] rfl trivial (ev_cf rfl (ev_skip ?_)))))
      exact ev_region [] rfl trivial (round0 (n + 1, f, qq) ⟨by dsimp only; rw [hqn]; exact q1, by dsimp only; rw [hqn]; omega, by dsimp only; omega, by dsimp only; rw [hqn, ← g4, ht]; omega, by dsimp only; omega⟩ (Nat.lt_succ_self f) ⟨le_0, le_0, le_0, le_0, le_e (congrArg (fun z => PV.val (.int .i64 z)) (wrapI _ (by omega) (by omega))), trivial⟩)
    · have hz : ¬ evalN p x c = 0 := fun e => beq_eq_false_iff_ne.mp h (by rw [e]; rfl)
      have ht : timF (minv p) p x (f + 1) (normN p c) = 0 := if_neg (fun e => hz (hev.symm.trans e))
      rw [ht] at g4
      exact at0 () trivial ⟨le_e (congrArg (fun z : Nat => PV.val (.int .i64 (z : Int))) g4), trivial⟩
  rintro ⟨⟩ -
  exact ev_rs [] rfl trivial (ev_ret (ret2 (fz_p (PLe.refl _)) (fz_p (PLe.refl _))))

set_option maxRecDepth 40000 in
theorem Times_zero {p : Nat} (hm : MayM p) (hb : isB p = true) (a : List Nat) (x : Nat) (hl : a.length ≤ 500) (h0 : (normN p a).length = 0) : CallSpec Tryd.pr.P Tryd.pr.G 22 [u64 p, u64s a, u64 x] (.tup 2 (two (i64 0) (i64 1))) := by
  have hD := Deg_spec hm a (by omega)
  refine callSpec_of Tryd.pr Tryd.func22 rfl rfl rfl fun w0 ok0 hok hG => ?_
  refine ev_rs [] rfl trivial ?_
  refine ev_rs [.tup 3 (three (polyF p) (newF p) (i64 0))] rfl ⟨.inl (RtFields_ok hm hb), trivial⟩ ?_
  refine ev_seq (ev_block (ev_rs [] rfl trivial (ev_cf rfl ?_)))
  refine ev_rs [i64 (((normN p a).length : Int) - 1)] rfl ⟨.inl hD, trivial⟩ (ev_cond rfl (fun h => ?_) (fun h => ev_skip ?_))
  · exact ev_rs [] rfl trivial (ev_ret (ret2 (fz_p (PLe.refl _)) (fz_p (PLe.refl _))))
  · exfalso
    have := of_decide_eq_false h
    omega

set_option maxRecDepth 40000 in
theorem Times_no {p : Nat} (hp : p < 18446744073709551616) (h : ¬ (p < 9223372036854775808 ∧ isB p = true)) (a : List Nat) (x : Nat) : CallSpec Tryd.pr.P Tryd.pr.G 22 [u64 p, u64s a, u64 x] (.tup 2 (two (i64 0) (i64 14))) := by
  refine callSpec_of Tryd.pr Tryd.func22 rfl rfl rfl fun w0 ok0 hok hG => ?_
  refine ev_rs [] rfl trivial ?_
  refine ev_rs [.tup 3 (three nilP nilP (i64 14))] rfl ⟨.inl (RtFields_no hp h), trivial⟩ ?_
  refine ev_seq (ev_block (ev_rs [] rfl trivial (ev_ct rfl ?_)))
  exact ev_rs [] rfl trivial (ev_ret (ret2 (fz_p (PLe.refl _)) (fz_p (PLe.refl _))))

/-! ### the chapter's examples -/

theorem roots7 : rootsN 7 [6, 0, 1] = [1, 6] := by decide +kernel
theorem lin7 : prodF 7 [1, 6] = [6, 0, 1] := by decide +kernel
theorem hi7 : hiB 7 1 1 ≠ hiB 7 1 6 := by decide +kernel
theorem parts7 : ∀ T ∈ partsP 7 [1, 6] [1] 1, T.length ≤ 1 := by decide +kernel
theorem tim7 : timF iv7 7 0 3 [0, 0, 1] = 2 := by decide +kernel

theorem same_t (x : List Nat) (hx : x.length < 1000000) : CallSpec Tryd.pr.P Tryd.pr.G 13 [u64s x, u64s x] (Vinc.bool true) := by
  have := Same_spec x x hx hx
  rwa [decide_eq_true rfl] at this

set_option maxRecDepth 40000 in
theorem awake11_spec : CallSpec Tryd.pr.P Tryd.pr.G 7 [] (Vinc.bool true) := by
  have hf := asked_fd asked7
  have hL := Linear_ok may7 isB7 hf [6, 0, 1] (by decide) (by decide)
  have hR := Roots_any may7 isB7 hf (by decide) [6, 0, 1] [1] (by decide) (by decide) (by decide) (fun xs hxs => sort_spec xs (by rw [hxs.length_eq, roots7]; decide)) (.tup 2 (two (u64s [1, 6]) (i64 0)))
    (fun _ => by rw [roots7]) (fun ⟨T, hT, hl⟩ => by
      rw [roots7] at hT
      have := parts7 T hT
      omega)
  have hT := Times_all may7 isB7 [0, 0, 1] 0 (by decide) (by decide)
  rw [show timF (minv 7) 7 0 (normN 7 [0, 0, 1]).length (normN 7 [0, 0, 1]) = 2 by rw [minv7]; exact tim7] at hT
  rw [roots7, lin7] at hL
  have h1 := same_t [6, 0, 1] (by decide)
  have h2 := same_t [1, 6] (by decide)
  have three3 : ∀ {x y z : Nat} {g : Nat → PV}, g 0 = u64 x → g 1 = u64 y → g 2 = u64 z → PLe (.sl 3 1 g) (u64s [x, y, z]) := fun h0 h1 h2 => PLe.lit rfl fun j hj => by
    match j, hj with
    | 0, _ => exact h0
    | 1, _ => exact h1
    | 2, _ => exact h2
  refine callSpec_of Tryd.pr Tryd.func7 rfl rfl rfl fun w0 ok0 hok hG => ?_
  refine ev_rs [] rfl trivial ?_
  refine ev_at (α := Unit) (fun _ => True) (fun _ => [(1, .p (u64s [6, 0, 1]))]) (fun _ => []) ?_ ?_
  · refine ev_region [] rfl (by repeat' (first | exact trivial | exact gd_t | exact gd_f | exact (fun _ => rfl) | intro _ | apply And.intro | assumption | exact rfl | exact gd_t (by assumption) | exact gd_f (by assumption) | exact gd_a (by assumption) (by assumption) | exact gd_b (by assumption) (by assumption))) (at0 () trivial ⟨le_freeze ren_nil rfl (Nat.le_refl 3) (fun k hk => by cases hk) (fun j hj => ?_), trivial⟩)
    match j, hj with
    | 0, _ => exact le_refl ren_nil _
    | 1, _ => exact le_refl ren_nil _
    | 2, _ => exact le_refl ren_nil _
  rintro ⟨⟩ -
  refine ev_rs [.tup 2 (two (u64s [6, 0, 1]) (i64 0))] rfl (by repeat' (first | exact trivial | exact gd_t | exact gd_f | exact .inl hL | exact (fun _ => rfl) | intro _ | apply And.intro | assumption | exact rfl | exact gd_t (by assumption) | exact gd_f (by assumption) | exact gd_a (by assumption) (by assumption) | exact gd_b (by assumption) (by assumption))) ?_
  refine ev_rs [.tup 2 (two (u64s [1, 6]) (i64 0))] rfl (by repeat' (first | exact trivial | exact gd_t | exact gd_f | exact Nat.le_refl 1 | exact .inl (callSpec_args (as' := [u64 7, u64s [6, 0, 1], u64s [1]]) ⟨PLe.refl _, PLe.refl _, PLe.lit1 rfl, trivial⟩ hR) | exact (fun _ => rfl) | intro _ | apply And.intro | assumption | exact rfl | exact gd_t (by assumption) | exact gd_f (by assumption) | exact gd_a (by assumption) (by assumption) | exact gd_b (by assumption) (by assumption))) ?_
  refine ev_rs [.tup 2 (two (i64 2) (i64 0))] rfl (by repeat' (first | exact trivial | exact gd_t | exact gd_f | exact Nat.le_refl 3 | exact .inl (callSpec_args (as' := [u64 7, u64s [0, 0, 1], u64 0]) ⟨PLe.refl _, three3 rfl rfl rfl, PLe.refl _, trivial⟩ hT) | exact (fun _ => rfl) | intro _ | apply And.intro | assumption | exact rfl | exact gd_t (by assumption) | exact gd_f (by assumption) | exact gd_a (by assumption) (by assumption) | exact gd_b (by assumption) (by assumption))) ?_
  refine ev_rs [Vinc.bool true, Vinc.bool true] rfl (by repeat' (first | exact trivial | exact gd_t | exact gd_f | exact Nat.le_refl 2 | exact .inl h1 | exact .inl (callSpec_args (as' := [u64s [1, 6], u64s [1, 6]]) ⟨PLe.refl _, PLe.lit2 rfl rfl, trivial⟩ h2) | exact rfl | exact (fun _ => rfl) | intro _ | apply And.intro | assumption | exact rfl | exact gd_t (by assumption) | exact gd_f (by assumption) | exact gd_a (by assumption) (by assumption) | exact gd_b (by assumption) (by assumption))) (ev_ret (ret1 (fz_p (PLe.of_eq rfl))))

end Go.Proofs

/- The laws of roots: telling apart. -/
set_option linter.unusedVariables false
namespace Go.Proofs
open Go Vinc Vinc.Num

theorem unasked {p : Nat} (hA : ¬ Asked p) : (MayM p ∧ isB p = true ∧ 100000 < p ∧ p < 9223372036854775808) ∨ ¬ (p < 9223372036854775808 ∧ isB p = true) := by
  by_cases hB : p < 9223372036854775808 ∧ isB p = true
  · have hbig : 100000 < p := by
      rcases Nat.lt_or_ge 100000 p with h1 | h1
      · exact h1
      · have := isB_not hA h1
        rw [hB.2] at this; cases this
    exact .inl ⟨⟨by omega, hB.1⟩, hB.2, hbig, hB.1⟩
  · exact .inr hB

theorem RootsTells_spec (p seed x y : Nat) (hp : p < 18446744073709551616) : CallSpec Tryd.pr.P Tryd.pr.G 6 [u64 p, u64 seed, .agg 2 (two (u64 x) (u64 y))] (Vinc.bool true) := by
  refine callSpec_of Tryd.pr Tryd.func6 rfl rfl rfl fun w0 ok0 hok hG => ?_
  refine ev_rs [] rfl (by repeat' (first | exact trivial | exact gd_t | exact gd_f | exact (fun _ => rfl) | intro _ | apply And.intro | assumption | exact rfl | exact gd_t (by assumption) | exact gd_f (by assumption) | exact gd_a (by assumption) (by assumption) | exact gd_b (by assumption) (by assumption))) ?_
  by_cases hA : Asked p
  · have hm := asked_may hA
    have hb := isB_asked hA
    have hT := Tells_ok hm hb seed x y
    have hR := RTells_spec hm seed x y
    obtain ⟨b, hbb⟩ : ∃ b, tellB p seed x y = b := ⟨_, rfl⟩
    rw [hbb] at hT hR
    refine ev_rs [.tup 2 (two (Vinc.bool b) (i64 0))] rfl (by repeat' (first | exact trivial | exact gd_t | exact gd_f | exact .inl hT | exact (by decide : (0 : Nat) < 2) | exact (by decide : (1 : Nat) < 2) | exact (by decide : (0 : Int) < 2) | exact (by decide : (1 : Int) < 2) | exact (fun _ => rfl) | intro _ | apply And.intro | assumption | exact rfl | exact gd_t (by assumption) | exact gd_f (by assumption) | exact gd_a (by assumption) (by assumption) | exact gd_b (by assumption) (by assumption))) ?_
    refine ev_seq (ev_rs [Vinc.bool true] rfl ⟨.inl (LawPrime_t hA), trivial⟩ (ev_cf rfl (ev_sk ?_)))
    refine ev_rs [Vinc.bool b, Vinc.bool true] rfl (by repeat' (first | exact trivial | exact gd_t | exact gd_f | exact .inl hR | exact .inl awake11_spec | exact (by decide : (0 : Nat) < 2) | exact (by decide : (1 : Nat) < 2) | exact (by decide : (0 : Int) < 2) | exact (by decide : (1 : Int) < 2) | exact (fun _ => rfl) | intro _ | apply And.intro | assumption | exact rfl | exact gd_t (by assumption) | exact gd_f (by assumption) | exact gd_a (by assumption) (by assumption) | exact gd_b (by assumption) (by assumption))) (ev_ret (ret1 (fz_p (PLe.of_eq (congrArg Vinc.bool ?_)))))
    show (bif (bif true then (b == b) else false) then true else false) = true
    cases b <;> rfl
  · obtain ⟨b, e, hT, hO⟩ : ∃ (b : Bool) (e : Int), CallSpec Tryd.pr.P Tryd.pr.G 20 [u64 p, u64 seed, u64 x, u64 y] (.tup 2 (two (Vinc.bool b) (i64 e))) ∧ ((100000 < p ∧ p < 9223372036854775808) ∨ (e = 14 ∧ b = false)) := by
      rcases unasked hA with ⟨hm, hb, h1, h2⟩ | hB
      · exact ⟨_, 0, Tells_ok hm hb seed x y, .inl ⟨h1, h2⟩⟩
      · exact ⟨false, 14, Tells_no hp hB seed x y, .inr ⟨rfl, rfl⟩⟩
    refine ev_rs [.tup 2 (two (Vinc.bool b) (i64 e))] rfl (by repeat' (first | exact trivial | exact gd_t | exact gd_f | exact .inl hT | exact (by decide : (0 : Nat) < 2) | exact (by decide : (1 : Nat) < 2) | exact (by decide : (0 : Int) < 2) | exact (by decide : (1 : Int) < 2) | exact (fun _ => rfl) | intro _ | apply And.intro | assumption | exact rfl | exact gd_t (by assumption) | exact gd_f (by assumption) | exact gd_a (by assumption) (by assumption) | exact gd_b (by assumption) (by assumption))) ?_
    refine ev_seq (ev_rs [Vinc.bool false] rfl ⟨.inl (LawPrime_f hA), trivial⟩ (ev_ct rfl ?_))
    refine ev_rs [Vinc.bool true] rfl (by repeat' (first | exact trivial | exact gd_t | exact gd_f | exact .inl awake11_spec | exact (fun _ => rfl) | intro _ | apply And.intro | assumption | exact rfl | exact gd_t (by assumption) | exact gd_f (by assumption) | exact gd_a (by assumption) (by assumption) | exact gd_b (by assumption) (by assumption))) (ev_ret (ret1 (fz_p (PLe.of_eq (congrArg Vinc.bool ?_)))))
    show (bif (bif (bif decide ((p : Int) > 100000) then decide ((p : Int) < 9223372036854775808) else false) then true else (bif (e == 14) then !b else false)) then true else false) = true
    rcases hO with ⟨h1, h2⟩ | ⟨h1, h2⟩
    · rw [decide_eq_true (by omega), decide_eq_true (by omega)]; rfl
    · subst h1
      subst h2
      cases (bif decide ((p : Int) > 100000) then decide ((p : Int) < 9223372036854775808) else false) <;> rfl

end Go.Proofs

/- The laws of roots: only roots; squares. -/
set_option linter.unusedVariables false
namespace Go.Proofs
open Go Vinc Vinc.Num

abbrev SortsR (R : List Nat) : Prop := ∀ xs : List Nat, xs.Perm R → CallSpecX Tryd.pr.P Tryd.pr.G 29 [.own 900 0 xs.length 1] [(900, ob64 xs)] [(900, ob64 (sortN xs))] (.p (.val (.tuple #[])))

theorem sorts_few {R : List Nat} (h : R.length ≤ 12) : SortsR R := fun xs hx => sort_spec xs (by rw [hx.length_eq]; exact h)

theorem roots_few {p : Nat} (hf : FdP p (minv p)) {a : List Nat} (h0 : 0 < (normN p a).length) : (rootsN p a).length < a.length := by
  have h1 := rootsN_len hf (Nz.norm hf.pos a) h0
  rw [rootsN_norm hf.pos] at h1
  have h2 := length_normN p a
  omega

theorem told_parts {p : Nat} (h2 : p ≠ 2) {R seeds : List Nat} (hd : Dist p R) : (∀ T ∈ partsP p R seeds seeds.length, T.length ≤ 1) ↔ AllP p R seeds :=
  (parts_all hd seeds.length).trans (allP_iff h2 (List.Perm.refl R) hd).symm

theorem Roots_told {p : Nat} (hA : Asked p) (a seeds : List Nat) (hl : a.length ≤ 500) (h0 : 0 < (normN p a).length) (hsl : seeds.length < 100000) (hs : SortsR (rootsN p a)) (hall : AllP p (rootsN p a) seeds) :
    CallSpec Tryd.pr.P Tryd.pr.G 8 [u64 p, u64s a, u64s seeds] (.tup 2 (two (u64s (rootsN p a)) (i64 0))) := by
  by_cases h2 : p = 2
  · subst h2
    exact Roots_two (asked_may hA) (isB_asked hA) (asked_fd hA) a seeds hl h0
  · have ht := (told_parts h2 (rootsN_dist p a)).mpr hall
    refine Roots_any (asked_may hA) (isB_asked hA) (asked_fd hA) h2 a seeds hl h0 hsl hs _ (fun _ => rfl) fun ⟨T, hT, hTl⟩ => ?_
    have := ht T hT
    omega

theorem Roots_untold {p : Nat} (hA : Asked p) (a seeds : List Nat) (hl : a.length ≤ 500) (h0 : 0 < (normN p a).length) (hsl : seeds.length < 100000) (hs : SortsR (rootsN p a)) (hall : ¬ AllP p (rootsN p a) seeds) :
    CallSpec Tryd.pr.P Tryd.pr.G 8 [u64 p, u64s a, u64s seeds] (.tup 2 (two nilS (i64 12))) := by
  have h2 : p ≠ 2 := fun e => hall fun i hi k hk => .inl e
  exact Roots_any (asked_may hA) (isB_asked hA) (asked_fd hA) h2 a seeds hl h0 hsl hs _ (fun h => absurd ((told_parts h2 (rootsN_dist p a)).mp h) hall) fun _ => rfl

theorem Roots_zero {p : Nat} (hA : Asked p) (a seeds : List Nat) (hl : a.length ≤ 500) (h0 : (normN p a).length = 0) : CallSpec Tryd.pr.P Tryd.pr.G 8 [u64 p, u64s a, u64s seeds] (.tup 2 (two nilS (i64 1))) :=
  Roots_bad (e := 1) (by decide) (Linear_zero (asked_may hA) (isB_asked hA) a hl h0)

theorem all_f : ∀ a b c d : Bool, a = false → b = false → (c = false ∨ d = false) → (bif (bif a then true else b) then true else (bif c then d else false)) = false := by decide
theorem or3_t : ∀ a b : Bool, (bif (bif a then true else b) then true else !false) = true := by decide
theorem or3_f : ∀ a b c : Bool, (bif (bif a then true else b) then true else c) = false → a = false ∧ b = false ∧ c = false := by decide

set_option maxRecDepth 20000 in
theorem RootsOnly_spec (p : Nat) (a seeds : List Nat) (hp : p < 18446744073709551616) : CallSpec Tryd.pr.P Tryd.pr.G 4 [u64 p, u64s a, u64s seeds] (Vinc.bool true) := by
  refine callSpec_of Tryd.pr Tryd.func4 rfl rfl rfl fun w0 ok0 hok hG => ?_
  refine ev_rs [] rfl trivial ?_
  by_cases hA : ¬ Asked p
  · refine ev_seq (ev_rs [Vinc.bool false] rfl (by repeat' (first | exact trivial | exact gd_t | exact gd_f | exact .inl (LawPrime_f hA) | exact (fun _ => rfl) | intro _ | apply And.intro | assumption | exact rfl | exact gd_t (by assumption) | exact gd_f (by assumption) | exact gd_a (by assumption) (by assumption) | exact gd_b (by assumption) (by assumption))) (ev_ct (congrArg (fun z => AV.p (PV.val (.bool z))) (or3_t _ _)) ?_))
    exact ev_rs [Vinc.bool true] rfl ⟨.inl awake11_spec, trivial⟩ (ev_ret (ret1 (fz_p (PLe.refl _))))
  have hA : Asked p := Classical.byContradiction hA
  have hm := asked_may hA
  have hf := asked_fd hA
  have hp0 := hf.pos
  refine ev_seq (ev_rs [Vinc.bool true] rfl (by repeat' (first | exact trivial | exact gd_t | exact gd_f | exact .inl (LawPrime_t hA) | exact (fun _ => rfl) | intro _ | apply And.intro | assumption | exact rfl | exact gd_t (by assumption) | exact gd_f (by assumption) | exact gd_a (by assumption) (by assumption) | exact gd_b (by assumption) (by assumption))) (ev_cond rfl (fun h => ?_) (fun h => ev_sk ?_)))
  · exact ev_rs [Vinc.bool true] rfl ⟨.inl awake11_spec, trivial⟩ (ev_ret (ret1 (fz_p (PLe.refl _))))
  obtain ⟨g1, g2, _⟩ := or3_f _ _ _ h
  have hl : a.length ≤ 12 := by have := of_decide_eq_false g1; omega
  have hl2 : seeds.length ≤ 30 := by have := of_decide_eq_false g2; omega
  have bad : ∀ e : Int, (e = 1 ∨ e = 12) → CallSpec Tryd.pr.P Tryd.pr.G 8 [u64 p, u64s a, u64s seeds] (.tup 2 (two nilS (i64 e))) → ∃ e : Int, (e = 1 ∨ e = 12) ∧ CallSpec Tryd.pr.P Tryd.pr.G 8 [u64 p, u64s a, u64s seeds] (.tup 2 (two (u64s []) (i64 e))) :=
    fun e he h => ⟨e, he, callSpec_res (PLe.two2 PLe.nil (PLe.refl _)) h⟩
  have hcase : (∃ e : Int, (e = 1 ∨ e = 12) ∧ CallSpec Tryd.pr.P Tryd.pr.G 8 [u64 p, u64s a, u64s seeds] (.tup 2 (two (u64s []) (i64 e)))) ∨ (0 < (normN p a).length ∧ CallSpec Tryd.pr.P Tryd.pr.G 8 [u64 p, u64s a, u64s seeds] (.tup 2 (two (u64s (rootsN p a)) (i64 0)))) := by
    by_cases h0 : (normN p a).length = 0
    · exact .inl (bad 1 (.inl rfl) (Roots_zero hA a seeds (by omega) h0))
    · have h0 : 0 < (normN p a).length := by omega
      have hS := sorts_few (R := rootsN p a) (by have := roots_few hf h0; omega)
      by_cases hall : AllP p (rootsN p a) seeds
      · exact .inr ⟨h0, Roots_told hA a seeds (by omega) h0 (by omega) hS hall⟩
      · exact .inl (bad 12 (.inr rfl) (Roots_untold hA a seeds (by omega) h0 (by omega) hS hall))
  rcases hcase with ⟨e, he, hR⟩ | ⟨h0, hR⟩
  · refine ev_rs [.tup 2 (two (u64s []) (i64 e))] rfl ⟨.inl hR, trivial⟩ ?_
    have hc : (e != 0) = true := bne_iff_ne.mpr (by omega)
    refine ev_seq (ev_rs [] rfl trivial (ev_ct (congrArg (fun z => AV.p (PV.val (.bool z))) hc) ?_))
    refine ev_rs [Vinc.bool true] rfl (by repeat' (first | exact trivial | exact gd_t | exact gd_f | exact .inl awake11_spec | exact (fun _ => rfl) | intro _ | apply And.intro | assumption | exact rfl | exact gd_t (by assumption) | exact gd_f (by assumption) | exact gd_a (by assumption) (by assumption) | exact gd_b (by assumption) (by assumption))) (ev_ret (ret1 (fz_p (PLe.of_eq (congrArg Vinc.bool ?_)))))
    rcases he with rfl | rfl <;> rfl
  · have hlt := rootsN_lt p a
    have hmem : ∀ x ∈ rootsN p a, x < p ∧ evalN p x a = 0 := fun x hx => mem_rootsN.mp hx
    have hlen : (rootsN p a).length < (normN p a).length := by
      have h1 := rootsN_len hf (Nz.norm hf.pos a) h0
      rwa [rootsN_norm hf.pos] at h1
    have hln := length_normN p a
    obtain ⟨R, hRR⟩ : ∃ R, rootsN p a = R := ⟨_, rfl⟩
    rw [hRR] at hR hlt hmem hlen
    have hget : ∀ i, i < R.length → R.getD i 0 < p ∧ evalN p (R.getD i 0) a = 0 := fun i hi => hmem _ (by
      rw [List.getD_eq_getElem?_getD, List.getElem?_eq_getElem hi]
      exact List.getElem_mem hi)
    have hinc : ∀ i, i + 1 < R.length → R.getD i 0 < R.getD (i + 1) 0 := fun i hi => by
      have := List.pairwise_iff_getElem.mp hlt i (i + 1) (by omega) hi (by omega)
      rwa [List.getD_eq_getElem?_getD, List.getD_eq_getElem?_getD, List.getElem?_eq_getElem (by omega : i < R.length), List.getElem?_eq_getElem hi]
    refine ev_rs [.tup 2 (two (u64s R) (i64 0))] rfl ⟨.inl hR, trivial⟩ ?_
    refine ev_seq (ev_rs [] rfl trivial (ev_cf rfl (ev_sk ?_)))
    refine ev_at (α := Unit) (fun _ => True) (fun _ => [(0, .p (u64 p)), (1, .p (u64s a)), (7, .p (u64s R))]) (fun _ => []) ?_ ?_
    · refine ev_rs [] rfl trivial ?_
      refine ev_block (ev_while0 (α := Nat) (fun i => i ≤ R.length) (fun i => [(0, .p (u64 p)), (1, .p (u64s a)), (7, .p (u64s R)), (9, .p (i64 i))]) (fun i => R.length - i) 0
        (Nat.zero_le _) ⟨le_0, le_0, le_0, le_0, trivial⟩ ?_)
      rintro i hi0
      refine ev_seq (ev_rs [] rfl trivial (ev_cond rfl (fun h => ev_sk ?_) (fun h => ev_exit ?_)))
      · have hi : i < R.length := Int.ofNat_lt.mp (of_decide_eq_true h)
        have i0 : (0 : Int) ≤ (i : Int) := by omega
        have i1 : (i : Int) < (R.length : Int) := by omega
        obtain ⟨hx, hz⟩ := hget i hi
        have hV := Value_spec hm a (R.getD i 0) (by omega) (by omega)
        rw [show evalF p (R.getD i 0) a a.length = 0 from hz] at hV
        have hge : decide (((R.getD i 0 : Nat) : Int) ≥ (p : Int)) = false := decide_eq_false (by omega)
        refine ev_seq (ev_block ?_)
        cases i with
        | zero =>
          have hno : ∀ {P : Prop} {b : Bool}, (b && ((decide (((0 : Nat) : Int) > 0)) == true)) = true → P := fun e => by
            rw [Bool.and_eq_true] at e
            cases e.2
          refine ev_ds [u64 0] (by kernel_rfl) rfl rfl (by repeat' (first | exact trivial | exact gd_t | exact gd_f | exact .inl hV | exact hi | exact i0 | exact i1 | exact fun e => hno e | exact (fun _ => rfl) | intro _ | apply And.intro | assumption | exact rfl | exact gd_t (by assumption) | exact gd_f (by assumption) | exact gd_a (by assumption) (by assumption) | exact gd_b (by assumption) (by assumption))) (ev_cf (congrArg (fun z => AV.p (PV.val (.bool z))) (all_f _ _ _ _ rfl hge (.inl rfl))) (ev_skip ?_))
          exact ev_region [] rfl trivial (round0 1 hi (by omega) ⟨le_0, le_0, le_0, le_e (congrArg (fun z => PV.val (.int .i64 z)) (wrapI _ (by omega) (by omega))), trivial⟩)
        | succ i =>
          have hlt' := hinc i hi
          have ek : IntKind.wrap .i64 (((i + 1 : Nat) : Int) - 1) = (i : Int) := (wrapI _ (by omega) (by omega)).trans (by omega)
          have e5 : (IntKind.wrap .i64 (((i + 1 : Nat) : Int) - 1)).toNat = i := by rw [ek, Int.toNat_natCast]
          have c1 : (IntKind.wrap .i64 (((i + 1 : Nat) : Int) - 1)).toNat < R.length := by rw [e5]; omega
          have c2 : 0 ≤ IntKind.wrap .i64 (((i + 1 : Nat) : Int) - 1) := by rw [ek]; omega
          have c3 : IntKind.wrap .i64 (((i + 1 : Nat) : Int) - 1) < (R.length : Int) := by rw [ek]; omega
          have hge2 : decide (((R.getD (IntKind.wrap .i64 (((i + 1 : Nat) : Int) - 1)).toNat 0 : Nat) : Int) ≥ ((R.getD (i + 1) 0 : Nat) : Int)) = false := by
            rw [e5]
            exact decide_eq_false (by omega)
          refine ev_ds [u64 0] (by kernel_rfl) rfl rfl (by repeat' (first | exact trivial | exact gd_t | exact gd_f | exact .inl hV | exact hi | exact i0 | exact i1 | exact c1 | exact c2 | exact c3 | exact (fun _ => rfl) | intro _ | apply And.intro | assumption | exact rfl | exact gd_t (by assumption) | exact gd_f (by assumption) | exact gd_a (by assumption) (by assumption) | exact gd_b (by assumption) (by assumption))) (ev_cf (congrArg (fun z => AV.p (PV.val (.bool z))) (all_f _ _ _ _ rfl hge (.inr hge2))) (ev_skip ?_))
          exact ev_region [] rfl trivial (round0 (i + 1 + 1) hi (by omega) ⟨le_0, le_0, le_0, le_e (congrArg (fun z => PV.val (.int .i64 z)) (wrapI _ (by omega) (by omega))), trivial⟩)
      · have hi : i = R.length := by
          have := of_decide_eq_false h
          omega
        exact at0 () trivial ⟨le_0, le_0, le_0, trivial⟩
    rintro ⟨⟩ -
    have hc : decide ((R.length : Int) < ((normN p a).length : Int)) = true := decide_eq_true (by omega)
    refine ev_rs [u64s (normN p a), Vinc.bool true] rfl (by repeat' (first | exact trivial | exact gd_t | exact gd_f | exact .inl (RNorm_spec hm a (by omega)) | exact .inl awake11_spec | exact (fun _ => rfl) | intro _ | apply And.intro | assumption | exact rfl | exact gd_t (by assumption) | exact gd_f (by assumption) | exact gd_a (by assumption) (by assumption) | exact gd_b (by assumption) (by assumption))) (ev_ret (ret1 (fz_p (PLe.of_eq (congrArg Vinc.bool ?_)))))
    show (bif decide ((R.length : Int) < ((normN p a).length : Int)) then true else false) = true
    rw [hc]; rfl

end Go.Proofs

/- The laws of roots: squares. -/
set_option linter.unusedVariables false
namespace Go.Proofs
open Go Vinc Vinc.Num

theorem minI (x y : Nat) : (if (y : Int) < (x : Int) then (y : Int) else (x : Int)) = ((if y < x then y else x : Nat) : Int) := by
  by_cases h : y < x
  · rw [if_pos h, if_pos (by omega)]
  · rw [if_neg h, if_neg (by omega)]

theorem maxI (x y : Nat) : (if (y : Int) > (x : Int) then (y : Int) else (x : Int)) = ((if y > x then y else x : Nat) : Int) := by
  by_cases h : y > x
  · rw [if_pos h, if_pos (by omega)]
  · rw [if_neg h, if_neg (by omega)]

theorem sq_norm {p : Nat} (hp : 1 < p) (s : Nat) : 0 < (normN p [s, 0, 1]).length := by
  rcases Nat.eq_zero_or_pos (normN p [s, 0, 1]).length with e | e
  · exfalso
    have h0 : normN p [s, 0, 1] = [] := List.eq_nil_of_length_eq_zero e
    have h1 : (normN p [s, 0, 1]).getD 2 0 = 1 % p := by
      unfold normN
      rw [getD_trim]
      rfl
    rw [h0, Nat.mod_eq_of_lt hp] at h1
    cases h1
  · exact e

theorem allP_one {p : Nat} {seeds : List Nat} (x : Nat) : AllP p [x] seeds := fun i hi k hk => by
  have : i < 1 := hi
  omega

set_option maxRecDepth 20000 in
theorem RootsSquares_spec (p x : Nat) (seeds : List Nat) (hp : p < 18446744073709551616) : CallSpec Tryd.pr.P Tryd.pr.G 5 [u64 p, u64 x, u64s seeds] (Vinc.bool true) := by
  refine callSpec_of Tryd.pr Tryd.func5 rfl rfl rfl fun w0 ok0 hok hG => ?_
  refine ev_rs [] rfl trivial ?_
  by_cases hA : ¬ Asked p
  · refine ev_seq (ev_rs [Vinc.bool false] rfl (by repeat' (first | exact trivial | exact gd_t | exact gd_f | exact .inl (LawPrime_f hA) | exact (fun _ => rfl) | intro _ | apply And.intro | assumption | exact rfl | exact gd_t (by assumption) | exact gd_f (by assumption) | exact gd_a (by assumption) (by assumption) | exact gd_b (by assumption) (by assumption))) (ev_ct (congrArg (fun z => AV.p (PV.val (.bool z))) (show (bif (bif decide ((seeds.length : Int) > 60) then true else !false) then true else ((p : Int) == 2)) = true by cases decide ((seeds.length : Int) > 60) <;> rfl)) ?_))
    exact ev_rs [Vinc.bool true] rfl ⟨.inl awake11_spec, trivial⟩ (ev_ret (ret1 (fz_p (PLe.refl _))))
  have hA : Asked p := Classical.byContradiction hA
  have hm := asked_may hA
  have hf := asked_fd hA
  have hp0 := hf.pos
  have hp1 := hf.prime.1
  refine ev_seq (ev_rs [Vinc.bool true] rfl (by repeat' (first | exact trivial | exact gd_t | exact gd_f | exact .inl (LawPrime_t hA) | exact (fun _ => rfl) | intro _ | apply And.intro | assumption | exact rfl | exact gd_t (by assumption) | exact gd_f (by assumption) | exact gd_a (by assumption) (by assumption) | exact gd_b (by assumption) (by assumption))) (ev_cond rfl (fun h => ?_) (fun h => ev_sk ?_)))
  · exact ev_rs [Vinc.bool true] rfl ⟨.inl awake11_spec, trivial⟩ (ev_ret (ret1 (fz_p (PLe.refl _))))
  obtain ⟨g1, _, g3⟩ := or3_f _ _ _ h
  have hl2 : seeds.length ≤ 60 := by have := of_decide_eq_false g1; omega
  have h2 : p ≠ 2 := fun e => by
    rw [eq2_t e] at g3
    cases g3
  have hpz : ((p : Nat) : Int) ≠ 0 := by omega
  obtain ⟨X, hX⟩ : ∃ X, x % p = X := ⟨_, rfl⟩
  have hXp : X < p := by rw [← hX]; exact Nat.mod_lt _ hp0
  have hp63 := hm.2
  refine ev_rs [] rfl (by repeat' (first | exact trivial | exact gd_t | exact gd_f | exact hpz | exact (fun _ => rfl) | intro _ | apply And.intro | assumption | exact rfl | exact gd_t (by assumption) | exact gd_f (by assumption) | exact gd_a (by assumption) (by assumption) | exact gd_b (by assumption) (by assumption))) ?_
  refine ev_n 1 X rfl (show (x : Int).tmod (p : Int) = (X : Int) from by rw [← hX]; rfl) ?_
  obtain ⟨s, hs⟩ : ∃ s, sb 0 (X * X % p) p = s := ⟨_, rfl⟩
  have hMu := RefMul_spec hm X X (by omega)
  have hSu : CallSpec Tryd.pr.P Tryd.pr.G 18 [u64 0, u64 (X * X % p), u64 p] (u64 s) := by rw [← hs]; exact RefSub_spec hm 0 _
  refine ev_at (α := Unit) (fun _ => True) (fun _ => [(0, .p (u64 p)), (1, .p (u64 X)), (2, .p (u64s seeds)), (7, .p (u64s [s, 0, 1]))]) (fun _ => []) ?_ ?_
  · refine ev_region [u64 (X * X % p), u64 s] rfl (by repeat' (first | exact trivial | exact gd_t | exact gd_f | exact .inl hMu | exact .inl hSu | exact (fun _ => rfl) | intro _ | apply And.intro | assumption | exact rfl | exact gd_t (by assumption) | exact gd_f (by assumption) | exact gd_a (by assumption) (by assumption) | exact gd_b (by assumption) (by assumption))) (at0 () trivial ⟨le_0, le_0, le_0, le_freeze ren_nil rfl (Nat.le_refl 3) (fun k hk => by cases hk) (fun j hj => ?_), trivial⟩)
    match j, hj with
    | 0, _ => exact le_refl ren_nil _
    | 1, _ => exact le_refl ren_nil _
    | 2, _ => exact le_refl ren_nil _
  rintro ⟨⟩ -
  have h0 := sq_norm hp1 s
  have hS := sorts_few (R := rootsN p [s, 0, 1]) (by have := roots_few hf h0; have e : [s, 0, 1].length = 3 := rfl; omega)
  have hSy : CallSpec Tryd.pr.P Tryd.pr.G 18 [u64 0, u64 X, u64 p] (u64 (sb 0 X p)) := RefSub_spec hm 0 _
  by_cases hX0 : X = 0
  · subst hX0
    have hR := Roots_told hA [s, 0, 1] seeds (show (3 : Nat) ≤ 500 by decide) h0 (by omega) hS (by rw [← hs, sq_zero hf]; exact allP_one 0)
    rw [show rootsN p [s, 0, 1] = [0] by rw [← hs]; exact sq_zero hf] at hR
    have hSm := same_t [0] (by decide)
    refine ev_rs [.tup 2 (two (u64s [0]) (i64 0))] rfl ⟨.inl hR, trivial⟩ ?_
    refine ev_seq (ev_rs [] rfl trivial (ev_cf rfl (ev_sk ?_)))
    refine ev_rs [u64 (sb 0 0 p)] rfl ⟨.inl hSy, trivial⟩ ?_
    refine ev_seq (ev_rs [] rfl (by repeat' (first | exact trivial | exact gd_t | exact gd_f | exact (fun _ => rfl) | intro _ | apply And.intro | assumption | exact rfl | exact gd_t (by assumption) | exact gd_f (by assumption) | exact gd_a (by assumption) (by assumption) | exact gd_b (by assumption) (by assumption))) (ev_ct rfl ?_))
    exact ev_rs [Vinc.bool true, Vinc.bool true] rfl (by repeat' (first | exact trivial | exact gd_t | exact gd_f | exact Nat.le_refl 1 | exact .inl awake11_spec | exact .inl (callSpec_args (as' := [u64s [0], u64s [0]]) ⟨PLe.refl _, PLe.lit1 rfl, trivial⟩ hSm) | exact (fun _ => rfl) | intro _ | apply And.intro | assumption | exact rfl | exact gd_t (by assumption) | exact gd_f (by assumption) | exact gd_a (by assumption) (by assumption) | exact gd_b (by assumption) (by assumption))) (ev_ret (ret1 (fz_p (PLe.of_eq rfl))))
  · have hXpos : 0 < X := by omega
    have hXb : ((X : Int) == 0) = false := beq_eq_false_iff_ne.mpr (by omega)
    have hXn : ((X : Int) != 0) = true := bne_iff_ne.mpr (by omega)
    by_cases hall : AllP p (rootsN p [s, 0, 1]) seeds
    · have hR := Roots_told hA [s, 0, 1] seeds (show (3 : Nat) ≤ 500 by decide) h0 (by omega) hS hall
      have hq := sq_two hf h2 hXpos hXp
      rw [hs, ← sb_pos hXpos hXp] at hq
      rw [hq] at hR
      obtain ⟨y, hy⟩ : ∃ y, sb 0 X p = y := ⟨_, rfl⟩
      rw [hy] at hR hSy
      obtain ⟨m1, hm1⟩ : ∃ m1, (if y < X then y else X) = m1 := ⟨_, rfl⟩
      obtain ⟨m2, hm2⟩ : ∃ m2, (if y > X then y else X) = m2 := ⟨_, rfl⟩
      have hi1 := minI X y
      have hi2 := maxI X y
      rw [hm1] at hR hi1
      rw [hm2] at hR hi2
      have hSm := same_t [m1, m2] (show (2 : Nat) < 1000000 by decide)
      refine ev_rs [.tup 2 (two (u64s [m1, m2]) (i64 0))] rfl ⟨.inl hR, trivial⟩ ?_
      refine ev_seq (ev_rs [] rfl trivial (ev_cf rfl (ev_sk ?_)))
      refine ev_rs [u64 y] rfl ⟨.inl hSy, trivial⟩ ?_
      refine ev_seq (ev_rs [] rfl (by repeat' (first | exact trivial | exact gd_t | exact gd_f | exact (fun _ => rfl) | intro _ | apply And.intro | assumption | exact rfl | exact gd_t (by assumption) | exact gd_f (by assumption) | exact gd_a (by assumption) (by assumption) | exact gd_b (by assumption) (by assumption))) (ev_cf (congrArg (fun z => AV.p (PV.val (.bool z))) (show (bif false then true else ((X : Int) == 0)) = false by rw [hXb]; rfl)) (ev_sk ?_)))
      exact ev_rs [Vinc.bool true, Vinc.bool true] rfl (by repeat' (first | exact trivial | exact gd_t | exact gd_f | exact Nat.le_refl 2 | exact .inl awake11_spec | exact .inl (callSpec_args (as' := [u64s [m1, m2], u64s [m1, m2]]) ⟨PLe.refl _, PLe.lit2 (congrArg (fun z => PV.val (.int .u64 z)) hi1) (congrArg (fun z => PV.val (.int .u64 z)) hi2), trivial⟩ hSm) | exact (fun _ => rfl) | intro _ | apply And.intro | assumption | exact rfl | exact gd_t (by assumption) | exact gd_f (by assumption) | exact gd_a (by assumption) (by assumption) | exact gd_b (by assumption) (by assumption))) (ev_ret (ret1 (fz_p (PLe.of_eq rfl))))
    · have hR : CallSpec Tryd.pr.P Tryd.pr.G 8 [u64 p, u64s [s, 0, 1], u64s seeds] (.tup 2 (two (u64s []) (i64 12))) := callSpec_res (PLe.two2 PLe.nil (PLe.refl _)) (Roots_untold hA [s, 0, 1] seeds (show (3 : Nat) ≤ 500 by decide) h0 (by omega) hS hall)
      refine ev_rs [.tup 2 (two (u64s []) (i64 12))] rfl ⟨.inl hR, trivial⟩ ?_
      refine ev_seq (ev_rs [] rfl trivial (ev_ct rfl ?_))
      refine ev_rs [Vinc.bool true] rfl (by repeat' (first | exact trivial | exact gd_t | exact gd_f | exact .inl awake11_spec | exact (fun _ => rfl) | intro _ | apply And.intro | assumption | exact rfl | exact gd_t (by assumption) | exact gd_f (by assumption) | exact gd_a (by assumption) (by assumption) | exact gd_b (by assumption) (by assumption))) (ev_ret (ret1 (fz_p (PLe.of_eq (congrArg Vinc.bool ?_)))))
      show (bif (bif ((X : Int) != 0) then true else false) then true else false) = true
      rw [hXn]; rfl

end Go.Proofs

/- slices.Sort, walked: the median of three, pseudo random swaps. -/
set_option linter.unusedVariables false
namespace Go.Proofs
open Go Vinc Vinc.Num

abbrev cellI (s : Int) : Ob := ⟨1, fun _ => .p (i64 s)⟩

theorem sub209 (ys : List Nat) (s : Int) : ∀ q ∈ [((900 : Nat), ob64 ys), (9, cellI s)], ∀ j, j < q.2.n → subA ([((900 : Nat), ob64 ys), (9, cellI s)].map (·.1)) (q.2.f j) := fun q hq j hj => by
  simp only [List.mem_cons, List.not_mem_nil, or_false] at hq
  rcases hq with rfl | rfl <;> trivial

theorem pre209 (ys : List Nat) (s t : Int) : ∀ q ∈ [((900 : Nat), ob64 ys), (9, cellI s)], (hOf [((900 : Nat), ob64 ys), (9, cellI t)] q.1).isSome = true ∧ (fun i : Nat => i) q.1 = q.1 := fun q hq => by
  simp only [List.mem_cons, List.not_mem_nil, or_false] at hq
  rcases hq with rfl | rfl <;> exact ⟨rfl, rfl⟩

theorem ren209 {σ : St} {ys : List Nat} {s : Int} {l : List (Nat × AV)} (h : (σ.h 900).isSome = true) (h' : (σ.h 9).isSome = true) : Ren σ (mk l [(900, ob64 ys), (9, cellI s)]) (fun i => i) := ren_list fun q hq => by
  simp only [List.mem_cons, List.not_mem_nil, or_false] at hq
  rcases hq with rfl | rfl
  · exact h
  · exact h'

theorem obs209 {c : Cx} {σ : St} {ys : List Nat} {s : Int} {o : Ob} (h : σ.h 900 = some (ob64 ys)) (h' : σ.h 9 = some o) (hn : 1 ≤ o.n) (hf : o.f 0 = .p (i64 s)) : Obs c σ (mk [] [(900, ob64 ys), (9, cellI s)]) (fun i => i) [(900, ob64 ys), (9, cellI s)] :=
  ⟨⟨_, h, Nat.le_refl _, fun j _ => le_refl (ren209 (by rw [h]; rfl) (by rw [h']; rfl)) _⟩, ⟨_, h', hn, fun j hj => by
    have e : j = 0 := by have : j < 1 := hj; omega
    rw [e, hf]
    exact le_refl (ren209 (by rw [h]; rfl) (by rw [h']; rfl)) _⟩, trivial⟩

theorem order2_spec (ys : List Nat) (x y : Nat) (s : Nat) (hx : x < ys.length) (hy : y < ys.length) (hl : ys.length < 100000) (hs : s < 1000) :
    CallSpecX Tryd.pr.P Tryd.pr.G 87 [.own 900 0 ys.length 1, .p (i64 x), .p (i64 y), .oat 9 0] [(900, ob64 ys), (9, cellI s)] [(900, ob64 ys), (9, cellI ((s + (o2 ys x y).2.2 : Nat) : Int))] (.tp 2 (twoA (.p (i64 (o2 ys x y).1)) (.p (i64 (o2 ys x y).2.1)))) := by
  refine callSpecX_of Tryd.pr Tryd.func87 rfl rfl rfl (fun z hz => ?_) (sub209 ys s) fun w0 ok0 hok hG mine hmine lc => ?_
  · simp only [List.mem_cons, List.not_mem_nil, or_false] at hz
    rcases hz with rfl | rfl | rfl | rfl
    · exact List.mem_cons_self
    · trivial
    · trivial
    · exact List.mem_cons_of_mem _ List.mem_cons_self
  have x0 : (0 : Int) ≤ (x : Int) := by omega
  have x1 : (x : Int) < (ys.length : Int) := by omega
  have y0 : (0 : Int) ≤ (y : Int) := by omega
  have y1 : (y : Int) < (ys.length : Int) := by omega
  have hL := less_spec (ys.getD y 0) (ys.getD x 0)
  refine ev_rs [] rfl trivial ?_
  refine ev_seq (ev_ds [Vinc.bool (decide (((ys.getD y 0 : Nat) : Int) < ((ys.getD x 0 : Nat) : Int)))] (by kernel_rfl) rfl rfl (by repeat' (first | exact trivial | exact gd_t | exact gd_f | exact .inl hL | exact x0 | exact x1 | exact y0 | exact y1 | exact hx | exact hy | exact (fun _ => rfl) | intro _ | apply And.intro | assumption | exact rfl | exact gd_t (by assumption) | exact gd_f (by assumption) | exact gd_a (by assumption) (by assumption) | exact gd_b (by assumption) (by assumption))) ?_)
  by_cases hlt : ys.getD y 0 < ys.getD x 0
  · have hc : decide (((ys.getD y 0 : Nat) : Int) < ((ys.getD x 0 : Nat) : Int)) = true := decide_eq_true (by omega)
    have e : o2 ys x y = (y, x, 1) := if_pos hlt
    rw [e]
    refine ev_ct (congrArg (fun z => AV.p (PV.val (.bool z))) hc) ?_
    refine ev_rs [] rfl (by repeat' (first | exact trivial | exact gd_t | exact gd_f | exact Nat.le_refl 1 | exact (by decide : (0 : Nat) < 1) | exact (fun _ => rfl) | intro _ | apply And.intro | assumption | exact rfl | exact gd_t (by assumption) | exact gd_f (by assumption) | exact gd_a (by assumption) (by assumption) | exact gd_b (by assumption) (by assumption))) ?_
    refine ev_rs [] rfl trivial (ev_ret ?_)
    exact retX2 (fun i => i) (pre209 ys s _) ⟨rfl, rfl, trivial⟩ (obs209 rfl rfl (Nat.le_refl 1) (congrArg (fun z => AV.p (PV.val (.int .i64 z))) ((wrapI _ (by omega) (by omega)).trans (show (s : Int) + 1 = ((s + 1 : Nat) : Int) by omega)))) rfl (le_refl (ren209 rfl rfl) _) (le_refl (ren209 rfl rfl) _)
  · have hc : decide (((ys.getD y 0 : Nat) : Int) < ((ys.getD x 0 : Nat) : Int)) = false := decide_eq_false (by omega)
    have e : o2 ys x y = (x, y, 0) := if_neg hlt
    rw [e]
    refine ev_cf (congrArg (fun z => AV.p (PV.val (.bool z))) hc) (ev_sk ?_)
    refine ev_rs [] rfl trivial (ev_ret ?_)
    exact retX2 (fun i => i) (pre209 ys s _) ⟨rfl, rfl, trivial⟩ (obs209 rfl rfl (Nat.le_refl 1) rfl) rfl (le_refl (ren209 rfl rfl) _) (le_refl (ren209 rfl rfl) _)

abbrev in209 (ys : List Nat) (s : Int) : List (Nat × Ob) := [(900, ob64 ys), (9, cellI s)]

theorem median_spec (ys : List Nat) (x y z : Nat) (hx : x < ys.length) (hy : y < ys.length) (hz : z < ys.length) (hl : ys.length < 100000) :
    CallSpecX Tryd.pr.P Tryd.pr.G 79 [.own 900 0 ys.length 1, .p (i64 x), .p (i64 y), .p (i64 z), .oat 9 0] (in209 ys ((0 : Nat) : Int)) (in209 ys (((medK ys x y z).2 : Nat) : Int)) (.p (i64 (medK ys x y z).1)) := by
  have o2s : ∀ u v, (o2 ys u v).2.2 ≤ 1 ∧ (u < ys.length → v < ys.length → (o2 ys u v).1 < ys.length ∧ (o2 ys u v).2.1 < ys.length) := fun u v => by
    unfold o2
    split
    · exact ⟨Nat.le_refl 1, fun h1 h2 => ⟨h2, h1⟩⟩
    · exact ⟨Nat.zero_le 1, fun h1 h2 => ⟨h1, h2⟩⟩
  have e : medK ys x y z = ((o2 ys (o2 ys x y).1 (o2 ys (o2 ys x y).2.1 z).1).2.1, (o2 ys x y).2.2 + (o2 ys (o2 ys x y).2.1 z).2.2 + (o2 ys (o2 ys x y).1 (o2 ys (o2 ys x y).2.1 z).1).2.2) := rfl
  have p1 := o2s x y
  have p2 := o2s (o2 ys x y).2.1 z
  have p3 := o2s (o2 ys x y).1 (o2 ys (o2 ys x y).2.1 z).1
  obtain ⟨q1, q2⟩ := p1.2 hx hy
  obtain ⟨q3, q4⟩ := p2.2 q2 hz
  have hO1 := order2_spec ys x y 0 hx hy hl (by omega)
  have hO2 := order2_spec ys (o2 ys x y).2.1 z (0 + (o2 ys x y).2.2) q2 hz hl (by omega)
  have hO3 := order2_spec ys (o2 ys x y).1 (o2 ys (o2 ys x y).2.1 z).1 (0 + (o2 ys x y).2.2 + (o2 ys (o2 ys x y).2.1 z).2.2) q1 q3 hl (by omega)
  have eM2 : (medK ys x y z).2 = 0 + (o2 ys x y).2.2 + (o2 ys (o2 ys x y).2.1 z).2.2 + (o2 ys (o2 ys x y).1 (o2 ys (o2 ys x y).2.1 z).1).2.2 := by rw [e]; dsimp only; omega
  have eM1 : (medK ys x y z).1 = (o2 ys (o2 ys x y).1 (o2 ys (o2 ys x y).2.1 z).1).2.1 := by rw [e]
  rw [eM1, eM2]
  generalize o2 ys (o2 ys x y).1 (o2 ys (o2 ys x y).2.1 z).1 = r3 at *
  generalize o2 ys (o2 ys x y).2.1 z = r2 at *
  generalize o2 ys x y = r1 at *
  obtain ⟨a1, b1, c1⟩ := r1
  obtain ⟨a2, b2, c2⟩ := r2
  obtain ⟨a3, b3, c3⟩ := r3
  dsimp only at *
  refine callSpecX_of Tryd.pr Tryd.func79 rfl rfl rfl (fun w hw => ?_) (sub209 ys _) fun w0 ok0 hok hG mine hmine lc => ?_
  · simp only [List.mem_cons, List.not_mem_nil, or_false] at hw
    rcases hw with rfl | rfl | rfl | rfl | rfl
    · exact List.mem_cons_self
    · trivial
    · trivial
    · trivial
    · exact List.mem_cons_of_mem _ List.mem_cons_self
  refine ev_rs [] rfl trivial ?_
  refine ev_rg [.x ⟨[.own 900 0 ys.length 1, .p (i64 x), .p (i64 y), .oat 9 0], in209 ys ((0 : Nat) : Int), in209 ys ((0 + c1 : Nat) : Int), .tp 2 (twoA (.p (i64 a1)) (.p (i64 b1)))⟩] rfl ⟨⟨rfl, ⟨rfl, rfl, trivial⟩, hO1⟩, trivial⟩ ?_
  refine ev_rg [.x ⟨[.own 900 0 ys.length 1, .p (i64 b1), .p (i64 z), .oat 9 0], in209 ys ((0 + c1 : Nat) : Int), in209 ys ((0 + c1 + c2 : Nat) : Int), .tp 2 (twoA (.p (i64 a2)) (.p (i64 b2)))⟩] rfl ⟨⟨rfl, ⟨rfl, rfl, trivial⟩, hO2⟩, trivial⟩ ?_
  refine ev_rg [.x ⟨[.own 900 0 ys.length 1, .p (i64 a1), .p (i64 a2), .oat 9 0], in209 ys ((0 + c1 + c2 : Nat) : Int), in209 ys ((0 + c1 + c2 + c3 : Nat) : Int), .tp 2 (twoA (.p (i64 a3)) (.p (i64 b3)))⟩] rfl ⟨⟨rfl, ⟨rfl, rfl, trivial⟩, hO3⟩, trivial⟩ ?_
  refine ev_rs [] rfl trivial (ev_ret ?_)
  exact retX1 (fun i => i) (pre209 ys _ _) ⟨rfl, rfl, trivial⟩ (obs209 rfl rfl (Nat.le_refl 1) rfl) rfl (le_refl (ren209 rfl rfl) _)

theorem ren20 {σ : St} {ys : List Nat} {l : List (Nat × AV)} (h : (σ.h 900).isSome = true) : Ren σ (mk l [(900, ob64 ys)]) (fun i => i) := ren_list fun q hq => by
  obtain rfl := List.mem_singleton.mp hq
  exact h

theorem ev_i {c : Cx} {σ : St} {d : Code} {Q : Exit → St → Prop} (k n : Nat) {z : Int} (hz : σ.t k = .p (.val (.int .i64 z))) (h : z = (n : Int)) (h' : Ev c d Q { σ with t := upd σ.t k (.p (i64 n)) }) : Ev c d Q σ :=
  ev_eq k _ (hz.trans (congrArg (fun z => AV.p (PV.val (.int .i64 z))) h)) h'

theorem quart (n q a : Nat) (hn : n < 100000) (ha : a < 100000) (hq : q ≤ 3) : IntKind.wrap .i64 ((a : Int) + IntKind.wrap .i64 (IntKind.wrap .i64 ((n : Int).tdiv 4) * (q : Int))) = ((a + n / 4 * q : Nat) : Int) := by
  have e1 : (n : Int).tdiv 4 = ((n / 4 : Nat) : Int) := rfl
  have h1 : n / 4 ≤ n := Nat.div_le_self _ _
  have h2 : n / 4 * q ≤ n * 3 := Nat.mul_le_mul h1 hq
  rw [e1, wrapI ((n / 4 : Nat) : Int) (by omega) (by omega), ← Int.natCast_mul, wrapI ((n / 4 * q : Nat) : Int) (by omega) (by omega), ← Int.natCast_add, wrapI _ (by omega) (by omega)]

theorem choose_spec (ys : List Nat) (a b : Nat) (hab : a + 12 < b) (hb : b ≤ ys.length) (hb50 : b < a + 50) (hl : ys.length < 1000) :
    CallSpecX Tryd.pr.P Tryd.pr.G 62 [.own 900 0 ys.length 1, .p (i64 a), .p (i64 b)] [(900, ob64 ys)] [(900, ob64 ys)]
      (.tp 2 (twoA (.p (i64 (medK ys (a + (b - a) / 4 * 1) (a + (b - a) / 4 * 2) (a + (b - a) / 4 * 3)).1)) (.p (i64 (if (medK ys (a + (b - a) / 4 * 1) (a + (b - a) / 4 * 2) (a + (b - a) / 4 * 3)).2 = 0 then 1 else if (medK ys (a + (b - a) / 4 * 1) (a + (b - a) / 4 * 2) (a + (b - a) / 4 * 3)).2 = 12 then 2 else 0))))) := by
  obtain ⟨n, hn⟩ : ∃ n, b - a = n := ⟨_, rfl⟩
  rw [hn]
  have h4 : n / 4 * 3 < n := by omega
  have hM := median_spec ys (a + n / 4 * 1) (a + n / 4 * 2) (a + n / 4 * 3) (by omega) (by omega) (by omega) (by omega)
  obtain ⟨M, hMe⟩ : ∃ M, medK ys (a + n / 4 * 1) (a + n / 4 * 2) (a + n / 4 * 3) = M := ⟨_, rfl⟩
  rw [hMe] at hM ⊢
  obtain ⟨m, k⟩ := M
  dsimp only at hM ⊢
  refine callSpecX_of Tryd.pr Tryd.func62 rfl rfl rfl (fun w hw => ?_) (sub20 ys) fun w0 ok0 hok hG mine hmine lc => ?_
  · simp only [List.mem_cons, List.not_mem_nil, or_false] at hw
    rcases hw with rfl | rfl | rfl
    · exact List.mem_cons_self
    · trivial
    · trivial
  refine ev_rs [] rfl trivial ?_
  refine ev_rs [] rfl trivial ?_
  refine ev_i 8 n rfl ((wrapI _ (by omega) (by omega)).trans (show (b : Int) - (a : Int) = (n : Int) by omega)) ?_
  refine ev_rs [] rfl trivial (ev_obs 9 (cellI ((0 : Nat) : Int)) rfl rfl (fun j hj => ?_) ?_)
  · have e : j = 0 := by have : j < 1 := hj; omega
    subst e
    rfl
  refine ev_rs [] rfl (by repeat' (first | exact trivial | exact gd_t | exact gd_f | exact (by decide : (4 : Int) ≠ 0) | exact (fun _ => rfl) | intro _ | apply And.intro | assumption | exact rfl | exact gd_t (by assumption) | exact gd_f (by assumption) | exact gd_a (by assumption) (by assumption) | exact gd_b (by assumption) (by assumption))) (ev_i 10 (a + n / 4 * 1) rfl (quart n 1 a (by omega) (by omega) (by omega)) ?_)
  refine ev_rs [] rfl (by repeat' (first | exact trivial | exact gd_t | exact gd_f | exact (by decide : (4 : Int) ≠ 0) | exact (fun _ => rfl) | intro _ | apply And.intro | assumption | exact rfl | exact gd_t (by assumption) | exact gd_f (by assumption) | exact gd_a (by assumption) (by assumption) | exact gd_b (by assumption) (by assumption))) (ev_i 11 (a + n / 4 * 2) rfl (quart n 2 a (by omega) (by omega) (by omega)) ?_)
  refine ev_rs [] rfl (by repeat' (first | exact trivial | exact gd_t | exact gd_f | exact (by decide : (4 : Int) ≠ 0) | exact (fun _ => rfl) | intro _ | apply And.intro | assumption | exact rfl | exact gd_t (by assumption) | exact gd_f (by assumption) | exact gd_a (by assumption) (by assumption) | exact gd_b (by assumption) (by assumption))) (ev_i 12 (a + n / 4 * 3) rfl (quart n 3 a (by omega) (by omega) (by omega)) ?_)
  have c1 : decide ((n : Int) ≥ 8) = true := decide_eq_true (by omega)
  have c2 : decide ((n : Int) ≥ 50) = false := decide_eq_false (by omega)
  refine ev_seq (ev_rs [] rfl trivial (ev_ct (congrArg (fun z => AV.p (PV.val (.bool z))) c1) ?_))
  refine ev_seq (ev_rs [] rfl trivial (ev_cf (congrArg (fun z => AV.p (PV.val (.bool z))) c2) (ev_sk ?_)))
  refine ev_regionG [.x ⟨[.own 900 0 ys.length 1, .p (i64 (a + n / 4 * 1 : Nat)), .p (i64 (a + n / 4 * 2 : Nat)), .p (i64 (a + n / 4 * 3 : Nat)), .oat 9 0], in209 ys ((0 : Nat) : Int), in209 ys ((k : Nat) : Int), .p (i64 m)⟩] rfl ⟨⟨rfl, ⟨rfl, rfl, trivial⟩, hM⟩, trivial⟩ ?_
  refine ev_wk (wk (l := [(9, .oat 9 0), (11, .p (i64 m)), (1000, .is 900 (lc 900))]) (hs := in209 ys ((k : Nat) : Int)) (fun i => i) ⟨le_a rfl, le_refl (ren209 rfl rfl) _, le_s rfl, trivial⟩ ⟨⟨_, rfl, Nat.le_refl _, fun j _ => le_refl (ren209 rfl rfl) _⟩, ⟨_, rfl, Nat.le_refl 1, fun j _ => le_refl (ren209 rfl rfl) _⟩, trivial⟩ rfl) ?_
  refine ev_rs [] rfl (by repeat' (first | exact trivial | exact gd_t | exact gd_f | exact Nat.le_refl 1 | exact (by decide : (0 : Nat) < 1) | exact (fun _ => rfl) | intro _ | apply And.intro | assumption | exact rfl | exact gd_t (by assumption) | exact gd_f (by assumption) | exact gd_a (by assumption) (by assumption) | exact gd_b (by assumption) (by assumption))) ?_
  refine ev_wk (wk_ob (i := 900) (xs := ys) (l := [(11, .p (i64 m)), (49, .p (i64 k)), (1000, .is 900 (lc 900))]) rfl (fun hd => ⟨le_refl hd _, le_refl hd _, le_s rfl, trivial⟩)) ?_
  by_cases hk : k = 0
  · have hc : ((k : Int) == 0) = true := by rw [hk]; rfl
    rw [if_pos hk]
    refine ev_block (ev_rs [] rfl trivial (ev_ct (congrArg (fun z => AV.p (PV.val (.bool z))) hc) ?_))
    refine ev_rs [] rfl trivial (ev_ret ?_)
    exact retX2 (fun i => i) (pre20 ys _) ⟨rfl, trivial⟩ (obs20 rfl) rfl (le_refl (ren20 rfl) _) (le_refl (ren20 rfl) _)
  · have hc : ((k : Int) == 0) = false := beq_eq_false_iff_ne.mpr (by omega)
    rw [if_neg hk]
    refine ev_block (ev_rs [] rfl trivial (ev_cf (congrArg (fun z => AV.p (PV.val (.bool z))) hc) ?_))
    by_cases hk2 : k = 12
    · have hc2 : ((k : Int) == 12) = true := by rw [hk2]; rfl
      rw [if_pos hk2]
      refine ev_rs [] rfl trivial (ev_ct (congrArg (fun z => AV.p (PV.val (.bool z))) hc2) ?_)
      refine ev_rs [] rfl trivial (ev_ret ?_)
      exact retX2 (fun i => i) (pre20 ys _) ⟨rfl, trivial⟩ (obs20 rfl) rfl (le_refl (ren20 rfl) _) (le_refl (ren20 rfl) _)
    · have hc2 : ((k : Int) == 12) = false := beq_eq_false_iff_ne.mpr (by omega)
      rw [if_neg hk2]
      refine ev_rs [] rfl trivial (ev_cf (congrArg (fun z => AV.p (PV.val (.bool z))) hc2) ?_)
      refine ev_rs [] rfl trivial (ev_ret ?_)
      exact retX2 (fun i => i) (pre20 ys _) ⟨rfl, trivial⟩ (obs20 rfl) rfl (le_refl (ren20 rfl) _) (le_refl (ren20 rfl) _)

set_option maxHeartbeats 2000000 in
theorem partIns_spec (ys : List Nat) (a b : Nat) (hab : a < b) (hb : b ≤ ys.length) (hb50 : b < a + 50) (hl : ys.length < 1000) (R : Bool) (hR : R = true ↔ Asc ys a b) :
    CallSpecX Tryd.pr.P Tryd.pr.G 64 [.own 900 0 ys.length 1, .p (i64 a), .p (i64 b)] [(900, ob64 ys)] [(900, ob64 ys)] (.p (Vinc.bool R)) := by
  refine callSpecX_of Tryd.pr Tryd.func64 rfl rfl rfl (fun w hw => ?_) (sub20 ys) fun w0 ok0 hok hG mine hmine lc => ?_
  · simp only [List.mem_cons, List.not_mem_nil, or_false] at hw
    rcases hw with rfl | rfl | rfl
    · exact List.mem_cons_self
    · trivial
    · trivial
  refine ev_rs [] rfl trivial ?_
  refine ev_rs [] rfl trivial (ev_i 7 (a + 1) rfl ((wrapI _ (by omega) (by omega)).trans (show (a : Int) + 1 = ((a + 1 : Nat) : Int) by omega)) ?_)
  refine ev_at (α := Unit) (fun _ => False) (fun _ => []) (fun _ => []) ?_ (fun _ h => h.elim)
  refine ev_rs [] rfl trivial ?_
  refine ev_block (ev_while (α := Unit) (fun _ => True) (fun _ => [(0, .own 900 0 ys.length 1), (1, .p (i64 a)), (2, .p (i64 b)), (7, .p (i64 (a + 1 : Nat))), (8, .p (i64 0)), (1000, .is 900 (lc 900))]) (fun _ => [(900, ob64 ys)]) (fun _ => 0) ()
    trivial (wk_ob rfl (fun hd => ⟨le_o rfl, le_refl hd _, le_refl hd _, le_refl hd _, le_refl hd _, le_s rfl, trivial⟩)) ?_)
  rintro ⟨⟩ -
  refine ev_seq (ev_rs [] rfl trivial (ev_ct rfl (ev_sk ?_)))
  refine ev_seq (ev_block ?_)
  refine ev_at (α := Nat) (fun i => a ≤ i ∧ i + 1 ≤ b ∧ Asc ys a (i + 1) ∧ (i + 1 = b ∨ (i + 1 < b ∧ ys.getD (i + 1) 0 < ys.getD i 0))) (fun i => [(0, .own 900 0 ys.length 1), (1, .p (i64 a)), (2, .p (i64 b)), (7, .p (i64 (i + 1 : Nat))), (1000, .is 900 (lc 900))]) (fun _ => [(900, ob64 ys)]) ?_ ?_
  · refine ev_block (ev_while (α := Nat) (fun i => a ≤ i ∧ i + 1 ≤ b ∧ Asc ys a (i + 1)) (fun i => [(0, .own 900 0 ys.length 1), (1, .p (i64 a)), (2, .p (i64 b)), (7, .p (i64 (i + 1 : Nat))), (1000, .is 900 (lc 900))]) (fun _ => [(900, ob64 ys)]) (fun i => b - i) a
      ⟨Nat.le_refl a, hab, fun u v h1 h2 h3 => by omega⟩ (wk_ob rfl (fun hd => ⟨le_o rfl, le_refl hd _, le_refl hd _, le_refl hd _, le_s rfl, trivial⟩)) ?_)
    rintro i ⟨h1, h2, h3⟩
    have ek : IntKind.wrap .i64 (((i + 1 : Nat) : Int) - 1) = (i : Int) := (wrapI _ (by omega) (by omega)).trans (by omega)
    have e5 : (IntKind.wrap .i64 (((i + 1 : Nat) : Int) - 1)).toNat = i := by rw [ek, Int.toNat_natCast]
    by_cases hib : i + 1 < b
    · have hc : decide (((i + 1 : Nat) : Int) < (b : Int)) = true := decide_eq_true (by omega)
      have hL : CallSpec Tryd.pr.P Tryd.pr.G 65 [u64 (ys.getD (i + 1) 0), u64 (ys.getD (IntKind.wrap .i64 (((i + 1 : Nat) : Int) - 1)).toNat 0)] (Vinc.bool (decide (((ys.getD (i + 1) 0 : Nat) : Int) < ((ys.getD i 0 : Nat) : Int)))) := by
        rw [ek]
        exact less_spec _ _
      have i0 : (0 : Int) ≤ ((i + 1 : Nat) : Int) := by omega
      have i1 : ((i + 1 : Nat) : Int) < (ys.length : Int) := by omega
      have c1 : (IntKind.wrap .i64 (((i + 1 : Nat) : Int) - 1)).toNat < ys.length := by rw [ek, Int.toNat_natCast]; omega
      have c2 : 0 ≤ IntKind.wrap .i64 (((i + 1 : Nat) : Int) - 1) := by rw [ek]; omega
      have c3 : IntKind.wrap .i64 (((i + 1 : Nat) : Int) - 1) < (ys.length : Int) := by rw [ek]; omega
      have c4 : i + 1 < ys.length := by omega
      refine ev_seq (ev_ds [Vinc.bool (decide (((ys.getD (i + 1) 0 : Nat) : Int) < ((ys.getD i 0 : Nat) : Int)))] (by kernel_rfl) rfl rfl (by repeat' (first | exact trivial | exact gd_t | exact gd_f | exact i0 | exact i1 | exact .inl hL | exact c1 | exact c2 | exact c3 | exact c4 | exact (fun _ => rfl) | intro _ | apply And.intro | assumption | exact rfl | exact gd_t (by assumption) | exact gd_f (by assumption) | exact gd_a (by assumption) (by assumption) | exact gd_b (by assumption) (by assumption))) ?_)
      by_cases hlt : ys.getD (i + 1) 0 < ys.getD i 0
      · have hcc : (bif decide (((i + 1 : Nat) : Int) < (b : Int)) then !decide (((ys.getD (i + 1) 0 : Nat) : Int) < ((ys.getD i 0 : Nat) : Int)) else false) = false := by
          rw [hc, decide_eq_true (by omega : ((ys.getD (i + 1) 0 : Nat) : Int) < ((ys.getD i 0 : Nat) : Int))]; rfl
        refine ev_cf (congrArg (fun z => AV.p (PV.val (.bool z))) hcc) (ev_exit ?_)
        exact at_ob i ⟨h1, h2, h3, .inr ⟨hib, hlt⟩⟩ rfl (fun hd => ⟨le_o rfl, le_refl hd _, le_refl hd _, le_refl hd _, le_s rfl, trivial⟩)
      · have hcc : (bif decide (((i + 1 : Nat) : Int) < (b : Int)) then !decide (((ys.getD (i + 1) 0 : Nat) : Int) < ((ys.getD i 0 : Nat) : Int)) else false) = true := by
          rw [hc, decide_eq_false (by omega : ¬ ((ys.getD (i + 1) 0 : Nat) : Int) < ((ys.getD i 0 : Nat) : Int))]; rfl
        refine ev_ct (congrArg (fun z => AV.p (PV.val (.bool z))) hcc) (ev_sk ?_)
        refine ev_block (ev_region [] rfl trivial ⟨i + 1, ⟨by omega, hib, h3.snoc h1 (Nat.le_of_not_lt hlt)⟩, by dsimp only; omega, wk_ob rfl (fun hd => ⟨le_o rfl, le_refl hd _, le_refl hd _, le_n hd (congrArg (fun z => PV.val (.int .i64 z)) ((wrapI _ (by omega) (by omega)).trans (show ((i + 1 : Nat) : Int) + 1 = ((i + 1 + 1 : Nat) : Int) by omega))), le_s rfl, trivial⟩)⟩)
    · have hc : decide (((i + 1 : Nat) : Int) < (b : Int)) = false := decide_eq_false (by omega)
      have hno : ∀ {P : Prop}, (decide (((i + 1 : Nat) : Int) < (b : Int)) == true) = true → P := fun e => by rw [hc] at e; cases e
      refine ev_seq (ev_ds [Vinc.bool false] (by kernel_rfl) rfl rfl (by repeat' (first | exact trivial | exact gd_t | exact gd_f | exact fun e => hno e | exact (fun _ => rfl) | intro _ | apply And.intro | assumption | exact rfl | exact gd_t (by assumption) | exact gd_f (by assumption) | exact gd_a (by assumption) (by assumption) | exact gd_b (by assumption) (by assumption))) ?_)
      refine ev_cf (congrArg (fun z => AV.p (PV.val (.bool z))) (show (bif decide (((i + 1 : Nat) : Int) < (b : Int)) then !false else false) = false by rw [hc]; rfl)) (ev_exit ?_)
      exact at_ob i ⟨h1, h2, h3, .inl (by omega)⟩ rfl (fun hd => ⟨le_o rfl, le_refl hd _, le_refl hd _, le_refl hd _, le_s rfl, trivial⟩)
  rintro i ⟨h1, h2, h3, h4⟩
  rcases h4 with h4 | ⟨h4, h5⟩
  · have hRt : R = true := hR.mpr (by rw [← h4]; exact h3)
    have hc : (((i + 1 : Nat) : Int) == (b : Int)) = true := beq_iff_eq.mpr (by omega)
    refine ev_seq (ev_rs [] rfl trivial (ev_ct (congrArg (fun z => AV.p (PV.val (.bool z))) hc) ?_))
    refine ev_rs [] rfl trivial (ev_ret ?_)
    rw [hRt]
    exact retX1 (fun i => i) (pre20 ys _) ⟨rfl, trivial⟩ (obs20 rfl) rfl (le_refl (ren20 rfl) _)
  · have hRf : R = false := by
      cases hv : R with
      | false => rfl
      | true =>
        have := hR.mp hv i (i + 1) h1 (by omega) h4
        omega
    have hc : (((i + 1 : Nat) : Int) == (b : Int)) = false := beq_eq_false_iff_ne.mpr (by omega)
    refine ev_seq (ev_rs [] rfl trivial (ev_cf (congrArg (fun z => AV.p (PV.val (.bool z))) hc) (ev_sk ?_)))
    have hw : IntKind.wrap .i64 ((b : Int) - (a : Int)) = (b : Int) - (a : Int) := wrapI _ (by omega) (by omega)
    have hc2 : decide (IntKind.wrap .i64 ((b : Int) - (a : Int)) < 50) = true := by rw [hw]; exact decide_eq_true (by omega)
    refine ev_seq (ev_rs [] rfl trivial (ev_ct (congrArg (fun z => AV.p (PV.val (.bool z))) hc2) ?_))
    refine ev_rs [] rfl trivial (ev_ret ?_)
    rw [hRf]
    exact retX1 (fun i => i) (pre20 ys _) ⟨rfl, trivial⟩ (obs20 rfl) rfl (le_refl (ren20 rfl) _)

end Go.Proofs

/- slices.Sort, walked: partition. Printed by genpart.py. -/
set_option linter.unusedVariables false
namespace Go.Proofs
open Go Vinc Vinc.Num

set_option maxHeartbeats 4000000 in
theorem partition_spec (ys : List Nat) (a b v : Nat) (hav : a ≤ v) (hvb : v < b) (hb : b ≤ ys.length) (hab : a + 1 < b) (hl : ys.length < 1000) :
    CallSpecX Tryd.pr.P Tryd.pr.G 67 [.own 900 0 ys.length 1, .p (i64 a), .p (i64 b), .p (i64 v)] [(900, ob64 ys)] [(900, ob64 (partK ys a b v).1)] (.tp 2 (twoA (.p (i64 (partK ys a b v).2.1)) (.p (Vinc.bool (partK ys a b v).2.2)))) := by
  have hst := partK_start hav hvb hb hab
  obtain ⟨y0, hy0⟩ : ∃ y0, swp ys a v = y0 := ⟨_, rfl⟩
  have hy0l : y0.length = ys.length := by rw [← hy0, swp_len]
  obtain ⟨I1, hI1⟩ : ∃ I1, fwd1 y0 a (a + 1) (b - 1) = I1 := ⟨_, rfl⟩
  obtain ⟨J1, hJ1⟩ : ∃ J1, bwd1 y0 a I1 (b - 1) = J1 := ⟨_, rfl⟩
  have hcase : (I1 > J1 → partK ys a b v = (swp y0 J1 a, J1, true)) ∧ (¬ I1 > J1 → partK ys a b v = (swp (prtK a b (swp y0 I1 J1) (I1 + 1) (J1 - 1)).1 (prtK a b (swp y0 I1 J1) (I1 + 1) (J1 - 1)).2.2 a, (prtK a b (swp y0 I1 J1) (I1 + 1) (J1 - 1)).2.2, false)) := by
    unfold partK
    rw [hy0, hI1, hJ1]
    exact ⟨fun h => if_pos h, fun h => if_neg h⟩
  rw [hy0] at hst
  have hends := hst.ends (by omega)
  rw [hI1, hJ1] at hends
  obtain ⟨hE1, hE2, hE3, hE4, hE5⟩ := hends
  obtain ⟨PK, hPK⟩ : ∃ PK, partK ys a b v = PK := ⟨_, rfl⟩
  rw [hPK] at hcase ⊢
  refine callSpecX_of Tryd.pr Tryd.func67 rfl rfl rfl (fun w hw => ?_) (sub20 ys) fun w0 ok0 hok hG mine hmine lc => ?_
  · simp only [List.mem_cons, List.not_mem_nil, or_false] at hw
    rcases hw with rfl | rfl | rfl | rfl
    · exact List.mem_cons_self
    · trivial
    · trivial
    · trivial
  have a0 : (0 : Int) ≤ (a : Int) := by omega
  have a1 : (a : Int) < (ys.length : Int) := by omega
  have a2 : a < ys.length := by omega
  have v0 : (0 : Int) ≤ (v : Int) := by omega
  have v1 : (v : Int) < (ys.length : Int) := by omega
  have v2 : v < ys.length := by omega
  refine ev_rs [] rfl trivial ?_
  refine ev_ds [] (by kernel_rfl) rfl rfl (by repeat' (first | exact trivial | exact gd_t | exact gd_f | exact a0 | exact a1 | exact a2 | exact v0 | exact v1 | exact v2 | exact (fun _ => rfl) | intro _ | apply And.intro | assumption | exact rfl | exact gd_t (by assumption) | exact gd_f (by assumption) | exact gd_a (by assumption) (by assumption) | exact gd_b (by assumption) (by assumption))) (ev_swap 900 a v rfl rfl rfl rfl rfl a2 v2 ?_)
  refine ev_rs [] rfl trivial ?_
  refine ev_wk (wk_ob (i := 900) (xs := y0) (l := [(0, .own 900 0 ys.length 1), (1, .p (i64 a)), (2, .p (i64 b)), (10, .p (i64 (a + 1 : Nat))), (11, .p (i64 (b - 1 : Nat))), (1000, .is 900 (lc 900))]) (congrArg (fun l => some (ob64 l)) hy0) (fun hd => ⟨le_o rfl, le_refl hd _, le_refl hd _, le_n hd (congrArg (fun z => PV.val (.int .i64 z)) ((wrapI _ (by omega) (by omega)).trans (show (a : Int) + 1 = ((a + 1 : Nat) : Int) by omega))), le_n hd (congrArg (fun z => PV.val (.int .i64 z)) ((wrapI _ (by omega) (by omega)).trans (show (b : Int) - 1 = ((b - 1 : Nat) : Int) by omega))), le_s rfl, trivial⟩)) ?_
  obtain ⟨j, hj⟩ : ∃ j, b - 1 = j := ⟨_, rfl⟩
  rw [hj] at hst hI1 hJ1 hE3 hE5 ⊢
  obtain ⟨i, hi⟩ : ∃ i, a + 1 = i := ⟨_, rfl⟩
  rw [hi] at hst hI1 hE4 ⊢
  have hai := hst.ai
  have hij := hst.ij
  have hjb := hst.jb
  have hI : fwdK y0 a j (j + 1 - i) i = I1 := hI1
  refine ev_at (α := Unit) (fun _ => True) (fun _ => [(0, .own 900 0 ys.length 1), (1, .p (i64 a)), (2, .p (i64 b)), (10, .p (i64 (I1 : Nat))), (11, .p (i64 (j : Nat))), (1000, .is 900 (lc 900))]) (fun _ => [(900, ob64 y0)]) ?_ ?_
  · refine ev_block (ev_while (α := Nat) (fun u => a < u ∧ u ≤ j + 1 ∧ fwdK y0 a j (j + 1 - u) u = I1) (fun u => [(0, .own 900 0 ys.length 1), (1, .p (i64 a)), (2, .p (i64 b)), (10, .p (i64 (u : Nat))), (11, .p (i64 (j : Nat))), (1000, .is 900 (lc 900))]) (fun _ => [(900, ob64 y0)]) (fun u => j + 1 - u) (i)
      ⟨hai, hij, hI⟩ (wk_ob rfl (fun hd => ⟨le_o rfl, le_refl hd _, le_refl hd _, le_refl hd _, le_refl hd _, le_s rfl, trivial⟩)) ?_)
    rintro u ⟨k1, k2, k3⟩
    have a0 : (0 : Int) ≤ (a : Int) := by omega
    have a1 : (a : Int) < (ys.length : Int) := by omega
    have a2 : a < y0.length := by omega
    by_cases hu : u ≤ j
    · have hc : decide ((u : Int) ≤ (j : Int)) = true := decide_eq_true (by omega)
      have u0 : (0 : Int) ≤ (u : Int) := by omega
      have u1 : (u : Int) < (ys.length : Int) := by omega
      have u2 : u < y0.length := by omega
      have hL := less_spec ((y0).getD u 0) ((y0).getD a 0)
      refine ev_seq (ev_ds [Vinc.bool (decide ((((y0).getD u 0 : Nat) : Int) < (((y0).getD a 0 : Nat) : Int)))] (by kernel_rfl) rfl rfl (by repeat' (first | exact trivial | exact gd_t | exact gd_f | exact .inl hL | exact u0 | exact u1 | exact u2 | exact a0 | exact a1 | exact a2 | exact (fun _ => rfl) | intro _ | apply And.intro | assumption | exact rfl | exact gd_t (by assumption) | exact gd_f (by assumption) | exact gd_a (by assumption) (by assumption) | exact gd_b (by assumption) (by assumption))) ?_)
      rw [show j + 1 - u = j + 1 - (u + 1) + 1 by omega] at k3
      by_cases hlt : (y0).getD u 0 < (y0).getD a 0
      · have hcc : (bif decide ((u : Int) ≤ (j : Int)) then decide ((((y0).getD u 0 : Nat) : Int) < (((y0).getD a 0 : Nat) : Int)) else false) = true := by
          rw [hc]; exact decide_eq_true (by omega)
        have k3 : fwdK y0 a j (j + 1 - (u + 1)) (u + 1) = I1 := (if_pos ⟨hu, hlt⟩ : (if u ≤ j ∧ (y0).getD u 0 < (y0).getD a 0 then fwdK y0 a j (j + 1 - (u + 1)) (u + 1) else u) = _).symm.trans k3
        refine ev_ct (congrArg (fun z => AV.p (PV.val (.bool z))) hcc) (ev_sk ?_)
        exact ev_block (ev_region [] rfl trivial ⟨u + 1, ⟨by omega, by omega, k3⟩, by dsimp only; omega, wk_ob rfl (fun hd => ⟨le_o rfl, le_refl hd _, le_refl hd _, le_n hd (congrArg (fun z => PV.val (.int .i64 z)) ((wrapI _ (by omega) (by omega)).trans (show (u : Int) + 1 = ((u + 1 : Nat) : Int) by omega))), le_refl hd _, le_s rfl, trivial⟩)⟩)
      · have hcc : (bif decide ((u : Int) ≤ (j : Int)) then decide ((((y0).getD u 0 : Nat) : Int) < (((y0).getD a 0 : Nat) : Int)) else false) = false := by
          rw [hc]; exact decide_eq_false (by omega)
        have k3 : u = I1 := (if_neg (fun e => hlt e.2) : (if u ≤ j ∧ (y0).getD u 0 < (y0).getD a 0 then fwdK y0 a j (j + 1 - (u + 1)) (u + 1) else u) = _).symm.trans k3
        refine ev_cf (congrArg (fun z => AV.p (PV.val (.bool z))) hcc) (ev_exit ?_)
        exact at_ob () trivial rfl (fun hd => ⟨le_o rfl, le_refl hd _, le_refl hd _, le_n hd (congrArg (fun z : Nat => PV.val (.int .i64 (z : Int))) k3), le_refl hd _, le_s rfl, trivial⟩)
    · have hc : decide ((u : Int) ≤ (j : Int)) = false := decide_eq_false (by omega)
      have hno : ∀ {P : Prop}, (decide ((u : Int) ≤ (j : Int)) == true) = true → P := fun e => by rw [hc] at e; cases e
      have k3 : u = I1 := by
        rw [show j + 1 - u = 0 by omega] at k3
        exact k3
      refine ev_seq (ev_ds [Vinc.bool false] (by kernel_rfl) rfl rfl (by repeat' (first | exact trivial | exact gd_t | exact gd_f | exact fun e => hno e | exact (fun _ => rfl) | intro _ | apply And.intro | assumption | exact rfl | exact gd_t (by assumption) | exact gd_f (by assumption) | exact gd_a (by assumption) (by assumption) | exact gd_b (by assumption) (by assumption))) ?_)
      refine ev_cf (congrArg (fun z => AV.p (PV.val (.bool z))) (show (bif decide ((u : Int) ≤ (j : Int)) then false else false) = false by rw [hc]; rfl)) (ev_exit ?_)
      exact at_ob () trivial rfl (fun hd => ⟨le_o rfl, le_refl hd _, le_refl hd _, le_n hd (congrArg (fun z : Nat => PV.val (.int .i64 (z : Int))) k3), le_refl hd _, le_s rfl, trivial⟩)
  rintro ⟨⟩ -
  have hij2 : I1 ≤ j + 1 := hE5
  have hJ : bwdK y0 a I1 (j + 1 - I1) j = J1 := hJ1
  have hai2 : a < I1 := hE1.ai
  refine ev_at (α := Unit) (fun _ => True) (fun _ => [(0, .own 900 0 ys.length 1), (1, .p (i64 a)), (2, .p (i64 b)), (10, .p (i64 (I1 : Nat))), (11, .p (i64 (J1 : Nat))), (1000, .is 900 (lc 900))]) (fun _ => [(900, ob64 y0)]) ?_ ?_
  · refine ev_block (ev_while (α := Nat) (fun u => u ≤ j ∧ I1 ≤ u + 1 ∧ bwdK y0 a I1 (u + 1 - I1) u = J1) (fun u => [(0, .own 900 0 ys.length 1), (1, .p (i64 a)), (2, .p (i64 b)), (10, .p (i64 (I1 : Nat))), (11, .p (i64 (u : Nat))), (1000, .is 900 (lc 900))]) (fun _ => [(900, ob64 y0)]) (fun u => u) (j)
      ⟨Nat.le_refl _, hij2, hJ⟩ (wk_ob rfl (fun hd => ⟨le_o rfl, le_refl hd _, le_refl hd _, le_refl hd _, le_refl hd _, le_s rfl, trivial⟩)) ?_)
    rintro u ⟨k1, k2, k3⟩
    have a0 : (0 : Int) ≤ (a : Int) := by omega
    have a1 : (a : Int) < (ys.length : Int) := by omega
    have a2 : a < y0.length := by omega
    by_cases hu : I1 ≤ u
    · have hc : decide ((I1 : Int) ≤ (u : Int)) = true := decide_eq_true (by omega)
      have u0 : (0 : Int) ≤ (u : Int) := by omega
      have u1 : (u : Int) < (ys.length : Int) := by omega
      have u2 : u < y0.length := by omega
      have hL := less_spec ((y0).getD u 0) ((y0).getD a 0)
      refine ev_seq (ev_ds [Vinc.bool (decide ((((y0).getD u 0 : Nat) : Int) < (((y0).getD a 0 : Nat) : Int)))] (by kernel_rfl) rfl rfl (by repeat' (first | exact trivial | exact gd_t | exact gd_f | exact .inl hL | exact u0 | exact u1 | exact u2 | exact a0 | exact a1 | exact a2 | exact (fun _ => rfl) | intro _ | apply And.intro | assumption | exact rfl | exact gd_t (by assumption) | exact gd_f (by assumption) | exact gd_a (by assumption) (by assumption) | exact gd_b (by assumption) (by assumption))) ?_)
      rw [show u + 1 - I1 = u - 1 + 1 - I1 + 1 by omega] at k3
      by_cases hlt : (y0).getD u 0 < (y0).getD a 0
      · have hcc : (bif decide ((I1 : Int) ≤ (u : Int)) then !decide ((((y0).getD u 0 : Nat) : Int) < (((y0).getD a 0 : Nat) : Int)) else false) = false := by
          rw [hc, decide_eq_true (by omega : (((y0).getD u 0 : Nat) : Int) < (((y0).getD a 0 : Nat) : Int))]; rfl
        have k3 : u = J1 := (if_neg (fun e => e.2 hlt) : (if I1 ≤ u ∧ ¬ (y0).getD u 0 < (y0).getD a 0 then bwdK y0 a I1 (u - 1 + 1 - I1) (u - 1) else u) = _).symm.trans k3
        refine ev_cf (congrArg (fun z => AV.p (PV.val (.bool z))) hcc) (ev_exit ?_)
        exact at_ob () trivial rfl (fun hd => ⟨le_o rfl, le_refl hd _, le_refl hd _, le_refl hd _, le_n hd (congrArg (fun z : Nat => PV.val (.int .i64 (z : Int))) k3), le_s rfl, trivial⟩)
      · have hcc : (bif decide ((I1 : Int) ≤ (u : Int)) then !decide ((((y0).getD u 0 : Nat) : Int) < (((y0).getD a 0 : Nat) : Int)) else false) = true := by
          rw [hc, decide_eq_false (by omega : ¬ (((y0).getD u 0 : Nat) : Int) < (((y0).getD a 0 : Nat) : Int))]; rfl
        have k3 : bwdK y0 a I1 (u - 1 + 1 - I1) (u - 1) = J1 := (if_pos ⟨hu, hlt⟩ : (if I1 ≤ u ∧ ¬ (y0).getD u 0 < (y0).getD a 0 then bwdK y0 a I1 (u - 1 + 1 - I1) (u - 1) else u) = _).symm.trans k3
        refine ev_ct (congrArg (fun z => AV.p (PV.val (.bool z))) hcc) (ev_sk ?_)
        exact ev_block (ev_region [] rfl trivial ⟨u - 1, ⟨by omega, by omega, k3⟩, by dsimp only; omega, wk_ob rfl (fun hd => ⟨le_o rfl, le_refl hd _, le_refl hd _, le_refl hd _, le_n hd (congrArg (fun z => PV.val (.int .i64 z)) ((wrapI _ (by omega) (by omega)).trans (show (u : Int) - 1 = ((u - 1 : Nat) : Int) by omega))), le_s rfl, trivial⟩)⟩)
    · have hc : decide ((I1 : Int) ≤ (u : Int)) = false := decide_eq_false (by omega)
      have hno : ∀ {P : Prop}, (decide ((I1 : Int) ≤ (u : Int)) == true) = true → P := fun e => by rw [hc] at e; cases e
      have k3 : u = J1 := by
        rw [show u + 1 - I1 = 0 by omega] at k3
        exact k3
      refine ev_seq (ev_ds [Vinc.bool false] (by kernel_rfl) rfl rfl (by repeat' (first | exact trivial | exact gd_t | exact gd_f | exact fun e => hno e | exact (fun _ => rfl) | intro _ | apply And.intro | assumption | exact rfl | exact gd_t (by assumption) | exact gd_f (by assumption) | exact gd_a (by assumption) (by assumption) | exact gd_b (by assumption) (by assumption))) ?_)
      refine ev_cf (congrArg (fun z => AV.p (PV.val (.bool z))) (show (bif decide ((I1 : Int) ≤ (u : Int)) then !false else false) = false by rw [hc]; rfl)) (ev_exit ?_)
      exact at_ob () trivial rfl (fun hd => ⟨le_o rfl, le_refl hd _, le_refl hd _, le_refl hd _, le_n hd (congrArg (fun z : Nat => PV.val (.int .i64 (z : Int))) k3), le_s rfl, trivial⟩)
  rintro ⟨⟩ -
  have hJb := hE1.jb
  have hIJ := hE1.ij
  by_cases hgt : I1 > J1
  · have hP := hcase.1 hgt
    subst hP
    have hc : decide ((I1 : Int) > (J1 : Int)) = true := decide_eq_true (by omega)
    have j0 : (0 : Int) ≤ (J1 : Int) := by omega
    have j1 : (J1 : Int) < (ys.length : Int) := by omega
    have j2 : J1 < y0.length := by omega
    have a3 : a < y0.length := by omega
    refine ev_seq (ev_rs [] rfl trivial (ev_ct (congrArg (fun z => AV.p (PV.val (.bool z))) hc) ?_))
    refine ev_ds [] (by kernel_rfl) rfl rfl (by repeat' (first | exact trivial | exact gd_t | exact gd_f | exact a0 | exact a1 | exact a3 | exact j0 | exact j1 | exact j2 | exact (fun _ => rfl) | intro _ | apply And.intro | assumption | exact rfl | exact gd_t (by assumption) | exact gd_f (by assumption) | exact gd_a (by assumption) (by assumption) | exact gd_b (by assumption) (by assumption))) (ev_swap 900 J1 a rfl rfl rfl rfl rfl j2 a3 ?_)
    refine ev_rs [] rfl trivial (ev_ret ?_)
    exact retX2 (fun i => i) (pre20 ys _) ⟨rfl, trivial⟩ (obs20 rfl) rfl (le_refl (ren20 rfl) _) (le_refl (ren20 rfl) _)
  have hP := hcase.2 hgt
  obtain ⟨hlt, hE⟩ := hE2 (by omega)
  obtain ⟨T, hT⟩ : ∃ T, prtK a b (swp y0 I1 J1) (I1 + 1) (J1 - 1) = T := ⟨_, rfl⟩
  rw [hT] at hP
  have hc : decide ((I1 : Int) > (J1 : Int)) = false := decide_eq_false (by omega)
  have j0 : (0 : Int) ≤ (J1 : Int) := by omega
  have j1 : (J1 : Int) < (ys.length : Int) := by omega
  have j2 : J1 < y0.length := by omega
  have i0 : (0 : Int) ≤ (I1 : Int) := by omega
  have i1 : (I1 : Int) < (ys.length : Int) := by omega
  have i2 : I1 < y0.length := by omega
  refine ev_seq (ev_rs [] rfl trivial (ev_cf (congrArg (fun z => AV.p (PV.val (.bool z))) hc) (ev_sk ?_)))
  refine ev_ds [] (by kernel_rfl) rfl rfl (by repeat' (first | exact trivial | exact gd_t | exact gd_f | exact i0 | exact i1 | exact i2 | exact j0 | exact j1 | exact j2 | exact (fun _ => rfl) | intro _ | apply And.intro | assumption | exact rfl | exact gd_t (by assumption) | exact gd_f (by assumption) | exact gd_a (by assumption) (by assumption) | exact gd_b (by assumption) (by assumption))) (ev_swap 900 I1 J1 rfl rfl rfl rfl rfl i2 j2 ?_)
  refine ev_rs [] rfl trivial ?_
  refine ev_rs [] rfl trivial ?_
  refine ev_at (α := Nat) (fun i => T.2.2 < b ∧ a ≤ T.2.2 ∧ T.1.length = ys.length) (fun i => [(0, .own 900 0 ys.length 1), (1, .p (i64 a)), (2, .p (i64 b)), (10, .p (i64 (i : Nat))), (11, .p (i64 (T.2.2 : Nat))), (1000, .is 900 (lc 900))]) (fun _ => [(900, ob64 T.1)]) ?_ ?_
  · refine ev_block (ev_while (α := Nat × List Nat × Nat × Nat) (fun q => PI y0 q.2.1 a b q.2.2.1 q.2.2.2 ∧ q.2.2.2 + 2 - q.2.2.1 ≤ q.1 ∧ prtK a q.1 q.2.1 q.2.2.1 q.2.2.2 = T) (fun q => [(0, .own 900 0 ys.length 1), (1, .p (i64 a)), (2, .p (i64 b)), (10, .p (i64 (q.2.2.1 : Nat))), (11, .p (i64 (q.2.2.2 : Nat))), (1000, .is 900 (lc 900))]) (fun q => [(900, ob64 q.2.1)]) (fun q => q.1) (b, swp y0 I1 J1, I1 + 1, J1 - 1)
      ⟨hE, by dsimp only; omega, hT⟩ (wk_ob rfl (fun hd => ⟨le_o rfl, le_refl hd _, le_refl hd _, le_n hd (congrArg (fun z => PV.val (.int .i64 z)) ((wrapI _ (by omega) (by omega)).trans (show (I1 : Int) + 1 = ((I1 + 1 : Nat) : Int) by omega))), le_n hd (congrArg (fun z => PV.val (.int .i64 z)) ((wrapI _ (by omega) (by omega)).trans (show (J1 : Int) - 1 = ((J1 - 1 : Nat) : Int) by omega))), le_s rfl, trivial⟩)) ?_)
    rintro ⟨f, zs, i, j⟩ ⟨g1, g2, g3⟩
    dsimp only at g1 g2 g3
    clear hI1 hJ1 hst hE1 hE2 hE3 hE4 hE5 hE hI hJ hai hij hjb hij2 hai2 hJb hIJ hlt hc
    have hai := g1.ai
    have hij := g1.ij
    have hjb := g1.jb
    have hzl : zs.length = ys.length := g1.pm.len.trans hy0l
    obtain ⟨f, rfl⟩ : ∃ g, f = g + 1 := ⟨f - 1, by omega⟩
    have hends := g1.ends (by omega)
    obtain ⟨I2, hI⟩ : ∃ I2, fwd1 zs a i j = I2 := ⟨_, rfl⟩
    obtain ⟨J2, hJ⟩ : ∃ J2, bwd1 zs a I2 j = J2 := ⟨_, rfl⟩
    rw [hI, hJ] at hends
    obtain ⟨hE1, hE2, hE3, hE4, hE5⟩ := hends
    have g3 : (if fwd1 zs a i j > bwd1 zs a (fwd1 zs a i j) j then (zs, fwd1 zs a i j, bwd1 zs a (fwd1 zs a i j) j) else prtK a f (swp zs (fwd1 zs a i j) (bwd1 zs a (fwd1 zs a i j) j)) (fwd1 zs a i j + 1) (bwd1 zs a (fwd1 zs a i j) j - 1)) = T := g3
    rw [hI, hJ] at g3
    refine ev_block ?_
    refine ev_at (α := Unit) (fun _ => True) (fun _ => [(0, .own 900 0 ys.length 1), (1, .p (i64 a)), (2, .p (i64 b)), (10, .p (i64 (I2 : Nat))), (11, .p (i64 (j : Nat))), (1000, .is 900 (lc 900))]) (fun _ => [(900, ob64 zs)]) ?_ ?_
    · refine ev_block (ev_while (α := Nat) (fun u => a < u ∧ u ≤ j + 1 ∧ fwdK zs a j (j + 1 - u) u = I2) (fun u => [(0, .own 900 0 ys.length 1), (1, .p (i64 a)), (2, .p (i64 b)), (10, .p (i64 (u : Nat))), (11, .p (i64 (j : Nat))), (1000, .is 900 (lc 900))]) (fun _ => [(900, ob64 zs)]) (fun u => j + 1 - u) (i)
        ⟨hai, hij, hI⟩ (wk_ob rfl (fun hd => ⟨le_o rfl, le_refl hd _, le_refl hd _, le_refl hd _, le_refl hd _, le_s rfl, trivial⟩)) ?_)
      rintro u ⟨k1, k2, k3⟩
      have a0 : (0 : Int) ≤ (a : Int) := by omega
      have a1 : (a : Int) < (ys.length : Int) := by omega
      have a2 : a < zs.length := by omega
      by_cases hu : u ≤ j
      · have hc : decide ((u : Int) ≤ (j : Int)) = true := decide_eq_true (by omega)
        have u0 : (0 : Int) ≤ (u : Int) := by omega
        have u1 : (u : Int) < (ys.length : Int) := by omega
        have u2 : u < zs.length := by omega
        have hL := less_spec ((zs).getD u 0) ((zs).getD a 0)
        refine ev_seq (ev_ds [Vinc.bool (decide ((((zs).getD u 0 : Nat) : Int) < (((zs).getD a 0 : Nat) : Int)))] (by kernel_rfl) rfl rfl (by repeat' (first | exact trivial | exact gd_t | exact gd_f | exact .inl hL | exact u0 | exact u1 | exact u2 | exact a0 | exact a1 | exact a2 | exact (fun _ => rfl) | intro _ | apply And.intro | assumption | exact rfl | exact gd_t (by assumption) | exact gd_f (by assumption) | exact gd_a (by assumption) (by assumption) | exact gd_b (by assumption) (by assumption))) ?_)
        rw [show j + 1 - u = j + 1 - (u + 1) + 1 by omega] at k3
        by_cases hlt : (zs).getD u 0 < (zs).getD a 0
        · have hcc : (bif decide ((u : Int) ≤ (j : Int)) then decide ((((zs).getD u 0 : Nat) : Int) < (((zs).getD a 0 : Nat) : Int)) else false) = true := by
            rw [hc]; exact decide_eq_true (by omega)
          have k3 : fwdK zs a j (j + 1 - (u + 1)) (u + 1) = I2 := (if_pos ⟨hu, hlt⟩ : (if u ≤ j ∧ (zs).getD u 0 < (zs).getD a 0 then fwdK zs a j (j + 1 - (u + 1)) (u + 1) else u) = _).symm.trans k3
          refine ev_ct (congrArg (fun z => AV.p (PV.val (.bool z))) hcc) (ev_sk ?_)
          exact ev_block (ev_region [] rfl trivial ⟨u + 1, ⟨by omega, by omega, k3⟩, by dsimp only; omega, wk_ob rfl (fun hd => ⟨le_o rfl, le_refl hd _, le_refl hd _, le_n hd (congrArg (fun z => PV.val (.int .i64 z)) ((wrapI _ (by omega) (by omega)).trans (show (u : Int) + 1 = ((u + 1 : Nat) : Int) by omega))), le_refl hd _, le_s rfl, trivial⟩)⟩)
        · have hcc : (bif decide ((u : Int) ≤ (j : Int)) then decide ((((zs).getD u 0 : Nat) : Int) < (((zs).getD a 0 : Nat) : Int)) else false) = false := by
            rw [hc]; exact decide_eq_false (by omega)
          have k3 : u = I2 := (if_neg (fun e => hlt e.2) : (if u ≤ j ∧ (zs).getD u 0 < (zs).getD a 0 then fwdK zs a j (j + 1 - (u + 1)) (u + 1) else u) = _).symm.trans k3
          refine ev_cf (congrArg (fun z => AV.p (PV.val (.bool z))) hcc) (ev_exit ?_)
          exact at_ob () trivial rfl (fun hd => ⟨le_o rfl, le_refl hd _, le_refl hd _, le_n hd (congrArg (fun z : Nat => PV.val (.int .i64 (z : Int))) k3), le_refl hd _, le_s rfl, trivial⟩)
      · have hc : decide ((u : Int) ≤ (j : Int)) = false := decide_eq_false (by omega)
        have hno : ∀ {P : Prop}, (decide ((u : Int) ≤ (j : Int)) == true) = true → P := fun e => by rw [hc] at e; cases e
        have k3 : u = I2 := by
          rw [show j + 1 - u = 0 by omega] at k3
          exact k3
        refine ev_seq (ev_ds [Vinc.bool false] (by kernel_rfl) rfl rfl (by repeat' (first | exact trivial | exact gd_t | exact gd_f | exact fun e => hno e | exact (fun _ => rfl) | intro _ | apply And.intro | assumption | exact rfl | exact gd_t (by assumption) | exact gd_f (by assumption) | exact gd_a (by assumption) (by assumption) | exact gd_b (by assumption) (by assumption))) ?_)
        refine ev_cf (congrArg (fun z => AV.p (PV.val (.bool z))) (show (bif decide ((u : Int) ≤ (j : Int)) then false else false) = false by rw [hc]; rfl)) (ev_exit ?_)
        exact at_ob () trivial rfl (fun hd => ⟨le_o rfl, le_refl hd _, le_refl hd _, le_n hd (congrArg (fun z : Nat => PV.val (.int .i64 (z : Int))) k3), le_refl hd _, le_s rfl, trivial⟩)
    rintro ⟨⟩ -
    have hij2 : I2 ≤ j + 1 := hE5
    have hai2 : a < I2 := hE1.ai
    refine ev_at (α := Unit) (fun _ => True) (fun _ => [(0, .own 900 0 ys.length 1), (1, .p (i64 a)), (2, .p (i64 b)), (10, .p (i64 (I2 : Nat))), (11, .p (i64 (J2 : Nat))), (1000, .is 900 (lc 900))]) (fun _ => [(900, ob64 zs)]) ?_ ?_
    · refine ev_block (ev_while (α := Nat) (fun u => u ≤ j ∧ I2 ≤ u + 1 ∧ bwdK zs a I2 (u + 1 - I2) u = J2) (fun u => [(0, .own 900 0 ys.length 1), (1, .p (i64 a)), (2, .p (i64 b)), (10, .p (i64 (I2 : Nat))), (11, .p (i64 (u : Nat))), (1000, .is 900 (lc 900))]) (fun _ => [(900, ob64 zs)]) (fun u => u) (j)
        ⟨Nat.le_refl _, hij2, hJ⟩ (wk_ob rfl (fun hd => ⟨le_o rfl, le_refl hd _, le_refl hd _, le_refl hd _, le_refl hd _, le_s rfl, trivial⟩)) ?_)
      rintro u ⟨k1, k2, k3⟩
      have a0 : (0 : Int) ≤ (a : Int) := by omega
      have a1 : (a : Int) < (ys.length : Int) := by omega
      have a2 : a < zs.length := by omega
      by_cases hu : I2 ≤ u
      · have hc : decide ((I2 : Int) ≤ (u : Int)) = true := decide_eq_true (by omega)
        have u0 : (0 : Int) ≤ (u : Int) := by omega
        have u1 : (u : Int) < (ys.length : Int) := by omega
        have u2 : u < zs.length := by omega
        have hL := less_spec ((zs).getD u 0) ((zs).getD a 0)
        refine ev_seq (ev_ds [Vinc.bool (decide ((((zs).getD u 0 : Nat) : Int) < (((zs).getD a 0 : Nat) : Int)))] (by kernel_rfl) rfl rfl (by repeat' (first | exact trivial | exact gd_t | exact gd_f | exact .inl hL | exact u0 | exact u1 | exact u2 | exact a0 | exact a1 | exact a2 | exact (fun _ => rfl) | intro _ | apply And.intro | assumption | exact rfl | exact gd_t (by assumption) | exact gd_f (by assumption) | exact gd_a (by assumption) (by assumption) | exact gd_b (by assumption) (by assumption))) ?_)
        rw [show u + 1 - I2 = u - 1 + 1 - I2 + 1 by omega] at k3
        by_cases hlt : (zs).getD u 0 < (zs).getD a 0
        · have hcc : (bif decide ((I2 : Int) ≤ (u : Int)) then !decide ((((zs).getD u 0 : Nat) : Int) < (((zs).getD a 0 : Nat) : Int)) else false) = false := by
            rw [hc, decide_eq_true (by omega : (((zs).getD u 0 : Nat) : Int) < (((zs).getD a 0 : Nat) : Int))]; rfl
          have k3 : u = J2 := (if_neg (fun e => e.2 hlt) : (if I2 ≤ u ∧ ¬ (zs).getD u 0 < (zs).getD a 0 then bwdK zs a I2 (u - 1 + 1 - I2) (u - 1) else u) = _).symm.trans k3
          refine ev_cf (congrArg (fun z => AV.p (PV.val (.bool z))) hcc) (ev_exit ?_)
          exact at_ob () trivial rfl (fun hd => ⟨le_o rfl, le_refl hd _, le_refl hd _, le_refl hd _, le_n hd (congrArg (fun z : Nat => PV.val (.int .i64 (z : Int))) k3), le_s rfl, trivial⟩)
        · have hcc : (bif decide ((I2 : Int) ≤ (u : Int)) then !decide ((((zs).getD u 0 : Nat) : Int) < (((zs).getD a 0 : Nat) : Int)) else false) = true := by
            rw [hc, decide_eq_false (by omega : ¬ (((zs).getD u 0 : Nat) : Int) < (((zs).getD a 0 : Nat) : Int))]; rfl
          have k3 : bwdK zs a I2 (u - 1 + 1 - I2) (u - 1) = J2 := (if_pos ⟨hu, hlt⟩ : (if I2 ≤ u ∧ ¬ (zs).getD u 0 < (zs).getD a 0 then bwdK zs a I2 (u - 1 + 1 - I2) (u - 1) else u) = _).symm.trans k3
          refine ev_ct (congrArg (fun z => AV.p (PV.val (.bool z))) hcc) (ev_sk ?_)
          exact ev_block (ev_region [] rfl trivial ⟨u - 1, ⟨by omega, by omega, k3⟩, by dsimp only; omega, wk_ob rfl (fun hd => ⟨le_o rfl, le_refl hd _, le_refl hd _, le_refl hd _, le_n hd (congrArg (fun z => PV.val (.int .i64 z)) ((wrapI _ (by omega) (by omega)).trans (show (u : Int) - 1 = ((u - 1 : Nat) : Int) by omega))), le_s rfl, trivial⟩)⟩)
      · have hc : decide ((I2 : Int) ≤ (u : Int)) = false := decide_eq_false (by omega)
        have hno : ∀ {P : Prop}, (decide ((I2 : Int) ≤ (u : Int)) == true) = true → P := fun e => by rw [hc] at e; cases e
        have k3 : u = J2 := by
          rw [show u + 1 - I2 = 0 by omega] at k3
          exact k3
        refine ev_seq (ev_ds [Vinc.bool false] (by kernel_rfl) rfl rfl (by repeat' (first | exact trivial | exact gd_t | exact gd_f | exact fun e => hno e | exact (fun _ => rfl) | intro _ | apply And.intro | assumption | exact rfl | exact gd_t (by assumption) | exact gd_f (by assumption) | exact gd_a (by assumption) (by assumption) | exact gd_b (by assumption) (by assumption))) ?_)
        refine ev_cf (congrArg (fun z => AV.p (PV.val (.bool z))) (show (bif decide ((I2 : Int) ≤ (u : Int)) then !false else false) = false by rw [hc]; rfl)) (ev_exit ?_)
        exact at_ob () trivial rfl (fun hd => ⟨le_o rfl, le_refl hd _, le_refl hd _, le_refl hd _, le_n hd (congrArg (fun z : Nat => PV.val (.int .i64 (z : Int))) k3), le_s rfl, trivial⟩)
    rintro ⟨⟩ -
    have hJb := hE1.jb
    have hIJ := hE1.ij
    by_cases hgt : I2 > J2
    · rw [if_pos hgt] at g3
      have hc : decide ((I2 : Int) > (J2 : Int)) = true := decide_eq_true (by omega)
      refine ev_seq (ev_rs [] rfl trivial (ev_ct (congrArg (fun z => AV.p (PV.val (.bool z))) hc) (ev_exit ?_)))
      subst g3
      exact at_ob I2 ⟨hJb, by dsimp only; omega, hzl⟩ rfl (fun hd => ⟨le_o rfl, le_refl hd _, le_refl hd _, le_refl hd _, le_refl hd _, le_s rfl, trivial⟩)
    · rw [if_neg hgt] at g3
      obtain ⟨hlt, hE⟩ := hE2 (by omega)
      have hc : decide ((I2 : Int) > (J2 : Int)) = false := decide_eq_false (by omega)
      have j0 : (0 : Int) ≤ (J2 : Int) := by omega
      have j1 : (J2 : Int) < (ys.length : Int) := by omega
      have j2 : J2 < zs.length := by omega
      have i0 : (0 : Int) ≤ (I2 : Int) := by omega
      have i1 : (I2 : Int) < (ys.length : Int) := by omega
      have i2 : I2 < zs.length := by omega
      refine ev_seq (ev_rs [] rfl trivial (ev_cf (congrArg (fun z => AV.p (PV.val (.bool z))) hc) (ev_sk ?_)))
      refine ev_ds [] (by kernel_rfl) rfl rfl (by repeat' (first | exact trivial | exact gd_t | exact gd_f | exact i0 | exact i1 | exact i2 | exact j0 | exact j1 | exact j2 | exact (fun _ => rfl) | intro _ | apply And.intro | assumption | exact rfl | exact gd_t (by assumption) | exact gd_f (by assumption) | exact gd_a (by assumption) (by assumption) | exact gd_b (by assumption) (by assumption))) (ev_swap 900 I2 J2 rfl rfl rfl rfl rfl i2 j2 ?_)
      refine ev_rs [] rfl trivial ?_
      exact ev_region [] rfl trivial ⟨(f, swp zs I2 J2, I2 + 1, J2 - 1), ⟨hE, by dsimp only; omega, g3⟩, Nat.lt_succ_self f, wk_ob rfl (fun hd => ⟨le_o rfl, le_refl hd _, le_refl hd _, le_n hd (congrArg (fun z => PV.val (.int .i64 z)) ((wrapI _ (by omega) (by omega)).trans (show (I2 : Int) + 1 = ((I2 + 1 : Nat) : Int) by omega))), le_n hd (congrArg (fun z => PV.val (.int .i64 z)) ((wrapI _ (by omega) (by omega)).trans (show (J2 : Int) - 1 = ((J2 - 1 : Nat) : Int) by omega))), le_s rfl, trivial⟩)⟩
  rintro i3 ⟨t1, t2, t3⟩
  subst hP
  have j0 : (0 : Int) ≤ (T.2.2 : Int) := by omega
  have j1 : (T.2.2 : Int) < (ys.length : Int) := by omega
  have j2 : T.2.2 < T.1.length := by omega
  have a3 : a < T.1.length := by omega
  refine ev_ds [] (by kernel_rfl) rfl rfl (by repeat' (first | exact trivial | exact gd_t | exact gd_f | exact a0 | exact a1 | exact a3 | exact j0 | exact j1 | exact j2 | exact (fun _ => rfl) | intro _ | apply And.intro | assumption | exact rfl | exact gd_t (by assumption) | exact gd_f (by assumption) | exact gd_a (by assumption) (by assumption) | exact gd_b (by assumption) (by assumption))) (ev_swap 900 T.2.2 a (xs := T.1) rfl rfl rfl rfl rfl j2 a3 ?_)
  refine ev_rs [] rfl trivial (ev_ret ?_)
  exact retX2 (fun i => i) (pre20 ys _) ⟨rfl, trivial⟩ (obs20 rfl) rfl (le_refl (ren20 rfl) _) (le_refl (ren20 rfl) _)

end Go.Proofs

/- slices.Sort, walked: pseudo random swaps. -/
set_option linter.unusedVariables false
namespace Go.Proofs
open Go Vinc Vinc.Num

abbrev cellZ (z : Int) : Ob := ⟨1, fun _ => .p (.val (.int .u64 z))⟩

def xsL (z : Int) (k : Int) : Int := bitI .xor .u64 z (IntKind.wrap .u64 (z * 2 ^ (min (Int.toNat k) (IntKind.bits .u64))))
def xsR (z : Int) (k : Int) : Int := bitI .xor .u64 z (z.fdiv (2 ^ (min (Int.toNat k) (IntKind.bits .u64))))
def nxZ (z : Int) : Int := xsL (xsR (xsL z 13) 7) 17

theorem nxZ_nat (z : Int) : 0 ≤ nxZ z ∧ nxZ z < 18446744073709551616 := by
  have : ∀ w : Int, 0 ≤ IntKind.wrap .u64 w ∧ IntKind.wrap .u64 w < 18446744073709551616 := fun w => by
    rw [wrap64]
    omega
  exact this _

theorem sub901 (z : Int) : ∀ q ∈ [((901 : Nat), cellZ z)], ∀ j, j < q.2.n → subA ([((901 : Nat), cellZ z)].map (·.1)) (q.2.f j) := fun q hq j hj => by
  obtain rfl := List.mem_singleton.mp hq
  trivial

theorem pre901 (y z : Int) : ∀ q ∈ [((901 : Nat), cellZ y)], (hOf [((901 : Nat), cellZ z)] q.1).isSome = true ∧ (fun i : Nat => i) q.1 = q.1 := fun q hq => by
  obtain rfl := List.mem_singleton.mp hq
  exact ⟨rfl, rfl⟩

theorem ren901 {σ : St} {z : Int} {l : List (Nat × AV)} (h : (σ.h 901).isSome = true) : Ren σ (mk l [(901, cellZ z)]) (fun i => i) := ren_list fun q hq => by
  obtain rfl := List.mem_singleton.mp hq
  exact h

set_option maxRecDepth 40000 in
theorem next_spec (z : Int) : CallSpecX Tryd.pr.P Tryd.pr.G 77 [.oat 901 0] [(901, cellZ z)] [(901, cellZ (nxZ z))] (.p (.val (.int .u64 (nxZ z)))) := by
  refine callSpecX_of Tryd.pr Tryd.func77 rfl rfl rfl (fun w hw => ?_) (sub901 z) fun w0 ok0 hok hG mine hmine lc => ?_
  · obtain rfl := List.mem_singleton.mp hw
    exact List.mem_cons_self
  refine ev_rs [] rfl trivial ?_
  refine ev_ds [] (by kernel_rfl) rfl rfl (by repeat' (first | exact trivial | exact gd_t | exact gd_f | exact Nat.le_refl 1 | exact (by decide : (0 : Nat) < 1) | exact (by decide : (0 : Int) ≤ 13) | exact (fun _ => rfl) | intro _ | apply And.intro | assumption | exact rfl | exact gd_t (by assumption) | exact gd_f (by assumption) | exact gd_a (by assumption) (by assumption) | exact gd_b (by assumption) (by assumption))) ?_
  refine ev_wk (wk1 (i := 901) (ob := cellZ (xsL z 13)) (l := [(0, .oat 901 0), (1000, .is 901 (lc 901))]) _ rfl (Nat.le_refl 1) (fun hd j hj => ?_) (fun hd => ⟨le_a rfl, le_s rfl, trivial⟩)) ?_
  · have e : j = 0 := by have : j < 1 := hj; omega
    subst e
    exact le_refl hd _
  refine ev_ds [] (by kernel_rfl) rfl rfl (by repeat' (first | exact trivial | exact gd_t | exact gd_f | exact Nat.le_refl 1 | exact (by decide : (0 : Nat) < 1) | exact (by decide : (0 : Int) ≤ 7) | exact (fun _ => rfl) | intro _ | apply And.intro | assumption | exact rfl | exact gd_t (by assumption) | exact gd_f (by assumption) | exact gd_a (by assumption) (by assumption) | exact gd_b (by assumption) (by assumption))) ?_
  refine ev_wk (wk1 (i := 901) (ob := cellZ (xsR (xsL z 13) 7)) (l := [(0, .oat 901 0), (1000, .is 901 (lc 901))]) _ rfl (Nat.le_refl 1) (fun hd j hj => ?_) (fun hd => ⟨le_a rfl, le_s rfl, trivial⟩)) ?_
  · have e : j = 0 := by have : j < 1 := hj; omega
    subst e
    exact le_refl hd _
  refine ev_ds [] (by kernel_rfl) rfl rfl (by repeat' (first | exact trivial | exact gd_t | exact gd_f | exact Nat.le_refl 1 | exact (by decide : (0 : Nat) < 1) | exact (by decide : (0 : Int) ≤ 17) | exact (fun _ => rfl) | intro _ | apply And.intro | assumption | exact rfl | exact gd_t (by assumption) | exact gd_f (by assumption) | exact gd_a (by assumption) (by assumption) | exact gd_b (by assumption) (by assumption))) ?_
  refine ev_wk (wk1 (i := 901) (ob := cellZ (nxZ z)) (l := [(0, .oat 901 0), (1000, .is 901 (lc 901))]) _ rfl (Nat.le_refl 1) (fun hd j hj => ?_) (fun hd => ⟨le_a rfl, le_s rfl, trivial⟩)) ?_
  · have e : j = 0 := by have : j < 1 := hj; omega
    subst e
    exact le_refl hd _
  refine ev_rs [] rfl (by repeat' (first | exact trivial | exact gd_t | exact gd_f | exact Nat.le_refl 1 | exact (by decide : (0 : Nat) < 1) | exact (fun _ => rfl) | intro _ | apply And.intro | assumption | exact rfl | exact gd_t (by assumption) | exact gd_f (by assumption) | exact gd_a (by assumption) (by assumption) | exact gd_b (by assumption) (by assumption))) (ev_ret ?_)
  exact retX1 (fun i => i) (pre901 z _) ⟨rfl, trivial⟩ ⟨⟨_, rfl, Nat.le_refl 1, fun j hj => le_refl (ren901 rfl) _⟩, trivial⟩ rfl (le_refl (ren901 rfl) _)

theorem nextPow_spec (n : Nat) (hn : n < 1000) : CallSpec Tryd.pr.P Tryd.pr.G 76 [i64 n] (u64 (2 ^ len64 n)) := by
  have hw : IntKind.wrap .u64 (n : Int) = (n : Int) := (wrapN n).trans (congrArg (fun n : Nat => (n : Int)) (Nat.mod_eq_of_lt (by omega)))
  have hB : CallSpec Tryd.pr.P Tryd.pr.G 47 [PV.val (.int .u64 (IntKind.wrap .u64 (n : Int)))] (i64 (len64 n)) := by
    rw [hw]
    exact bitsLen_spec _ (by omega)
  have hlen : len64 n ≤ 10 := by
    unfold len64
    split
    · omega
    · rename_i h
      have : Nat.log2 n < 10 := (Nat.log2_lt h).mpr (by omega)
      omega
  have l0 : (0 : Int) ≤ (len64 n : Int) := by omega
  refine callSpec_of Tryd.pr Tryd.func76 rfl rfl rfl fun w0 ok0 hok hG => ?_
  refine ev_rs [] rfl trivial ?_
  refine ev_rs [i64 (len64 n)] rfl (by repeat' (first | exact trivial | exact gd_t | exact gd_f | exact .inl hB | exact l0 | exact (fun _ => rfl) | intro _ | apply And.intro | assumption | exact rfl | exact gd_t (by assumption) | exact gd_f (by assumption) | exact gd_a (by assumption) (by assumption) | exact gd_b (by assumption) (by assumption))) (ev_ret (ret1 (fz_p (PLe.of_eq (congrArg (fun z => PV.val (.int .u64 z)) ?_)))))
  have := shlN 1 (len64 n) (by omega)
  have h2 : 2 ^ len64 n ≤ 2 ^ 10 := Nat.pow_le_pow_right (by decide) hlen
  have h3 : (1 : Nat) * 2 ^ len64 n % 18446744073709551616 = 2 ^ len64 n := by rw [Nat.one_mul]; exact Nat.mod_eq_of_lt (by omega)
  rw [h3] at this
  exact this

def ρ7 (q : Nat) : Nat := bif Nat.beq q 901 then 7 else q

abbrev in901 (ys : List Nat) (z : Int) : List (Nat × Ob) := [(900, ob64 ys), (901, cellZ z)]

theorem ren2 {σ : St} {ys : List Nat} {z : Int} {l : List (Nat × AV)} (ρ : Nat → Nat) (h : (σ.h (ρ 900)).isSome = true) (h' : (σ.h (ρ 901)).isSome = true) : Ren σ (mk l (in901 ys z)) ρ := ren_list fun q hq => by
  simp only [List.mem_cons, List.not_mem_nil, or_false] at hq
  rcases hq with rfl | rfl
  · exact h
  · exact h'

theorem wk_2 {c : Cx} {σ : St} {ys : List Nat} {z : Int} {l : List (Nat × AV)} (h : σ.h 900 = some (ob64 ys)) (h' : σ.h 901 = some (cellZ z)) (hs : Ren σ (mk l (in901 ys z)) (fun i => i) → Slots c σ (mk l (in901 ys z)) (fun i => i) l) : Wk c σ (mk l (in901 ys z)) :=
  wk (fun i => i) (hs (ren2 _ (by rw [h]; rfl) (by rw [h']; rfl))) ⟨⟨_, h, Nat.le_refl _, fun j _ => le_refl (ren2 _ (by rw [h]; rfl) (by rw [h']; rfl)) _⟩, ⟨_, h', Nat.le_refl _, fun j _ => le_refl (ren2 _ (by rw [h]; rfl) (by rw [h']; rfl)) _⟩, trivial⟩ rfl

theorem pow_len {n : Nat} (hn : 0 < n) : 2 ^ len64 n ≤ 2 * n := by
  unfold len64
  rw [if_neg (by omega), Nat.pow_succ]
  have := Nat.log2_self_le (n := n) (by omega)
  omega

set_option maxRecDepth 40000 in
set_option maxHeartbeats 4000000 in
theorem break_spec (ys : List Nat) (a b n : Nat) (hn : a + n = b) (hb : b ≤ ys.length) (hn8 : 8 ≤ n) (hl : ys.length < 1000) :
    CallSpecX Tryd.pr.P Tryd.pr.G 61 [.own 900 0 ys.length 1, .p (i64 a), .p (i64 b)] [(900, ob64 ys)] [(900, ob64 (brkK nxZ (2 ^ len64 n) a n (a + n / 4 * 2 - 1) ys 3).2)] (.p (.val (.tuple #[]))) := by
  have hlen : len64 n ≤ 10 := by
    unfold len64
    rw [if_neg (by omega)]
    have : Nat.log2 n < 10 := (Nat.log2_lt (by omega)).mpr (by omega)
    omega
  obtain ⟨e, he⟩ : ∃ e, len64 n = e := ⟨_, rfl⟩
  have hNP := nextPow_spec n (by omega)
  have hmd2 := pow_len (n := n) (by omega)
  rw [he] at hNP hlen hmd2 ⊢
  have hmd : 0 < 2 ^ e := Nat.pow_pos (by decide)
  obtain ⟨md, hmde⟩ : ∃ md, 2 ^ e = md := ⟨_, rfl⟩
  have hmask : ∀ x : Nat, x < 18446744073709551616 → bitI .and .u64 (x : Int) ((md - 1 : Nat) : Int) = ((x % md : Nat) : Int) := fun x hx => by
    rw [← hmde]
    exact and_mask x e hx
  rw [hmde] at hNP hmd2 hmd ⊢
  obtain ⟨i0, hi0⟩ : ∃ i0, a + n / 4 * 2 - 1 = i0 := ⟨_, rfl⟩
  have hi2 : i0 + 1 = a + n / 4 * 2 := by omega
  have hi3 : i0 + 3 ≤ b := by omega
  rw [hi0]
  have hpm : ∀ k, k ≤ 3 → Pm ys (brkK nxZ md a n i0 ys k).2 a b := fun k hk => brkK_pm hmd hmd2 hb hn k (by omega) (by omega)
  refine callSpecX_of Tryd.pr Tryd.func61 rfl rfl rfl (fun w hw => ?_) (sub20 ys) fun w0 ok0 hok hG mine hmine lc => ?_
  · simp only [List.mem_cons, List.not_mem_nil, or_false] at hw
    rcases hw with rfl | rfl | rfl
    · exact List.mem_cons_self
    · trivial
    · trivial
  refine ev_rs [] rfl trivial (ev_i 6 n rfl ((wrapI _ (by omega) (by omega)).trans (show (b : Int) - (a : Int) = (n : Int) by omega)) ?_)
  refine ev_rs [] rfl trivial (ev_ct (congrArg (fun z => AV.p (PV.val (.bool z))) (decide_eq_true (by omega : (n : Int) ≥ 8))) ?_)
  refine ev_rs [] rfl (by repeat' (first | exact trivial | exact gd_t | exact gd_f | exact Nat.le_refl 1 | exact (by decide : (0 : Nat) < 1) | exact (fun _ => rfl) | intro _ | apply And.intro | assumption | exact rfl | exact gd_t (by assumption) | exact gd_f (by assumption) | exact gd_a (by assumption) (by assumption) | exact gd_b (by assumption) (by assumption))) ?_
  have hz0 : IntKind.wrap .u64 (n : Int) = (n : Int) := (wrapN n).trans (congrArg (fun n : Nat => (n : Int)) (Nat.mod_eq_of_lt (by omega)))
  refine ev_wk (wk (l := [(0, .own 900 0 ys.length 1), (1, .p (i64 a)), (6, .p (i64 n)), (7, .oat 901 0), (1000, .is 900 (lc 900))]) (hs := in901 ys (n : Int)) ρ7
    ⟨le_own (ρ := ρ7) (i := 900) rfl, le_refl (ren2 ρ7 (by rfl) (by rfl)) _, le_refl (ren2 ρ7 (by rfl) (by rfl)) _, le_oat (ρ := ρ7) (i := 901) rfl, le_is (ρ := ρ7) (i := 900) rfl, trivial⟩
    ⟨⟨_, rfl, Nat.le_refl _, fun j _ => le_refl (ren2 ρ7 (by rfl) (by rfl)) _⟩, ⟨_, rfl, Nat.le_refl 1, fun j hj => ?_⟩, trivial⟩ rfl) ?_
  · have e : j = 0 := by have : j < 1 := hj; omega
    subst e
    exact le_n (ren2 ρ7 (by rfl) (by rfl)) (congrArg (fun z => PV.val (.int .u64 z)) hz0)
  refine ev_rs [u64 md] rfl (by repeat' (first | exact trivial | exact gd_t | exact gd_f | exact .inl hNP | exact (fun _ => rfl) | intro _ | apply And.intro | assumption | exact rfl | exact gd_t (by assumption) | exact gd_f (by assumption) | exact gd_a (by assumption) (by assumption) | exact gd_b (by assumption) (by assumption))) ?_
  have hq : IntKind.wrap .i64 ((a : Int) + IntKind.wrap .i64 (IntKind.wrap .i64 ((n : Int).tdiv 4) * (2 : Int))) = ((i0 + 1 : Nat) : Int) := by rw [hi2]; exact quart n 2 a (by omega) (by omega) (by omega)
  refine ev_rs [] rfl (by repeat' (first | exact trivial | exact gd_t | exact gd_f | exact (by decide : (4 : Int) ≠ 0) | exact (fun _ => rfl) | intro _ | apply And.intro | assumption | exact rfl | exact gd_t (by assumption) | exact gd_f (by assumption) | exact gd_a (by assumption) (by assumption) | exact gd_b (by assumption) (by assumption))) (ev_i 9 i0 rfl ((congrArg (fun z => IntKind.wrap .i64 (z - 1)) hq).trans ((wrapI _ (by omega) (by omega)).trans (by omega))) ?_)
  have hb0 : (brkK nxZ md a n i0 ys 0).2 = ys := rfl
  refine ev_block (ev_while (α := Nat) (fun k => k ≤ 3)
    (fun k => [(0, .own 900 0 ys.length 1), (1, .p (i64 a)), (6, .p (i64 n)), (7, .oat 901 0), (8, .p (u64 md)), (9, .p (i64 (i0 + k : Nat))), (1000, .is 900 (lc 900))]) (fun k => in901 (brkK nxZ md a n i0 ys k).2 (brkK nxZ md a n i0 ys k).1) (fun k => 3 - k) 0
    (Nat.zero_le _) (wk_2 rfl rfl (fun hd => ⟨le_o rfl, le_refl hd _, le_refl hd _, le_a rfl, le_refl hd _, le_refl hd _, le_s rfl, trivial⟩)) ?_)
  rintro k hk
  have hpk := hpm k hk
  have hst : brkK nxZ md a n i0 ys (k + 1) = (nxZ (brkK nxZ md a n i0 ys k).1, swp (brkK nxZ md a n i0 ys k).2 (i0 + k) (a + (if (nxZ (brkK nxZ md a n i0 ys k).1).toNat % md ≥ n then (nxZ (brkK nxZ md a n i0 ys k).1).toNat % md - n else (nxZ (brkK nxZ md a n i0 ys k).1).toNat % md))) := rfl
  obtain ⟨B, hB⟩ : ∃ B, brkK nxZ md a n i0 ys k = B := ⟨_, rfl⟩
  rw [hB] at hst hpk ⊢
  obtain ⟨z, zs⟩ := B
  dsimp only at hst hpk ⊢
  have hzl := hpk.len
  by_cases hk3 : k < 3
  · have hc : decide (((i0 + k : Nat) : Int) ≤ IntKind.wrap .i64 (IntKind.wrap .i64 ((a : Int) + IntKind.wrap .i64 (IntKind.wrap .i64 ((n : Int).tdiv 4) * (2 : Int))) + 1)) = true := by
      rw [hq, wrapI _ (by omega) (by omega)]
      exact decide_eq_true (by omega)
    refine ev_seq (ev_rs [] rfl (by repeat' (first | exact trivial | exact gd_t | exact gd_f | exact (by decide : (4 : Int) ≠ 0) | exact (fun _ => rfl) | intro _ | apply And.intro | assumption | exact rfl | exact gd_t (by assumption) | exact gd_f (by assumption) | exact gd_a (by assumption) (by assumption) | exact gd_b (by assumption) (by assumption))) (ev_ct (congrArg (fun z => AV.p (PV.val (.bool z))) hc) (ev_sk ?_)))
    obtain ⟨o, ho⟩ : ∃ o, (nxZ z).toNat % md = o := ⟨_, rfl⟩
    have hz := nxZ_nat z
    have hon : o < md := by rw [← ho]; exact Nat.mod_lt _ hmd
    have hmdw : IntKind.wrap .u64 ((md : Int) - 1) = ((md - 1 : Nat) : Int) := wrapSub md 1 (by omega) (by omega)
    have hoe : IntKind.wrap .i64 (bitI .and .u64 (nxZ z) (IntKind.wrap .u64 ((md : Int) - 1))) = (o : Int) := by
      have h1 : (((nxZ z).toNat : Nat) : Int) = nxZ z := Int.toNat_of_nonneg hz.1
      rw [hmdw, ← h1, hmask _ (by omega), ho, wrapI _ (by omega) (by omega)]
    rw [ho] at hst
    obtain ⟨o', ho'⟩ : ∃ o', (if o ≥ n then o - n else o) = o' := ⟨_, rfl⟩
    rw [ho'] at hst
    have ho'n : o' < n := by rw [← ho']; split <;> omega
    refine ev_seq (ev_block ?_)
    refine ev_rg [.x ⟨[.oat 901 0], [(901, cellZ z)], [(901, cellZ (nxZ z))], .p (.val (.int .u64 (nxZ z)))⟩] rfl ⟨⟨rfl, ⟨rfl, trivial⟩, next_spec z⟩, trivial⟩ (ev_i 10 o rfl hoe ?_)
    refine ev_at (α := Unit) (fun _ => True) (fun _ => [(0, .own 900 0 ys.length 1), (1, .p (i64 a)), (6, .p (i64 n)), (7, .oat 901 0), (8, .p (u64 md)), (9, .p (i64 (i0 + k : Nat))), (10, .p (i64 o')), (1000, .is 900 (lc 900))]) (fun _ => in901 zs (nxZ z)) ?_ ?_
    · by_cases hge : o ≥ n
      · rw [if_pos hge] at ho'
        refine ev_rs [] rfl trivial (ev_ct (congrArg (fun z => AV.p (PV.val (.bool z))) (decide_eq_true (by omega : (o : Int) ≥ (n : Int)))) ?_)
        exact ev_region [] rfl trivial (at_wk () trivial (wk_2 rfl rfl (fun hd => ⟨le_o rfl, le_refl hd _, le_refl hd _, le_a rfl, le_refl hd _, le_refl hd _, le_n hd (congrArg (fun z => PV.val (.int .i64 z)) ((wrapI _ (by omega) (by omega)).trans (show (o : Int) - (n : Int) = (o' : Int) by omega))), le_s rfl, trivial⟩)))
      · rw [if_neg hge] at ho'
        refine ev_rs [] rfl trivial (ev_cf (congrArg (fun z => AV.p (PV.val (.bool z))) (decide_eq_false (by omega : ¬ (o : Int) ≥ (n : Int)))) (ev_skip ?_))
        exact at_wk () trivial (wk_2 rfl rfl (fun hd => ⟨le_o rfl, le_refl hd _, le_refl hd _, le_a rfl, le_refl hd _, le_refl hd _, le_n hd (congrArg (fun z : Nat => PV.val (.int .i64 (z : Int))) ho'), le_s rfl, trivial⟩))
    rintro ⟨⟩ -
    have ew : IntKind.wrap .i64 ((a : Int) + (o' : Int)) = ((a + o' : Nat) : Int) := (wrapI _ (by omega) (by omega)).trans (by omega)
    have e5 : (IntKind.wrap .i64 ((a : Int) + (o' : Int))).toNat = a + o' := by rw [ew, Int.toNat_natCast]
    have c1 : (IntKind.wrap .i64 ((a : Int) + (o' : Int))).toNat < zs.length := by rw [e5]; omega
    have c2 : 0 ≤ IntKind.wrap .i64 ((a : Int) + (o' : Int)) := by rw [ew]; omega
    have c3 : IntKind.wrap .i64 ((a : Int) + (o' : Int)) < (ys.length : Int) := by rw [ew]; omega
    have d0 : (0 : Int) ≤ ((i0 + k : Nat) : Int) := by omega
    have d1 : ((i0 + k : Nat) : Int) < (ys.length : Int) := by omega
    have d2 : i0 + k < zs.length := by omega
    refine ev_draw [] (by kernel_rfl) rfl rfl (by repeat' (first | exact trivial | exact gd_t | exact gd_f | exact c1 | exact c2 | exact c3 | exact d0 | exact d1 | exact d2 | exact (fun _ => rfl) | intro _ | apply And.intro | assumption | exact rfl | exact gd_t (by assumption) | exact gd_f (by assumption) | exact gd_a (by assumption) (by assumption) | exact gd_b (by assumption) (by assumption))) (ev_swap 900 (i0 + k) (a + o') rfl rfl (show (IntKind.wrap .i64 ((a : Int) + (o' : Int))).toNat = a + o' from e5) (show u64 (zs.getD (IntKind.wrap .i64 ((a : Int) + (o' : Int))).toNat 0) = _ by rw [e5]) rfl d2 (show a + o' < zs.length by omega) ?_)
    have h1 : (brkK nxZ md a n i0 ys (k + 1)).1 = nxZ z := by rw [hst]
    have h2 : (brkK nxZ md a n i0 ys (k + 1)).2 = swp zs (i0 + k) (a + o') := by rw [hst]
    exact ev_region [] rfl trivial ⟨k + 1, hk3, by dsimp only; omega, wk_2 (by rw [h2]; rfl) (by rw [h1]; rfl) (fun hd => ⟨le_o rfl, le_refl hd _, le_refl hd _, le_a rfl, le_refl hd _, le_n hd (congrArg (fun z => PV.val (.int .i64 z)) ((wrapI _ (by omega) (by omega)).trans (show ((i0 + k : Nat) : Int) + 1 = ((i0 + (k + 1) : Nat) : Int) by omega))), le_s rfl, trivial⟩)⟩
  · have hk3 : k = 3 := by omega
    subst hk3
    have hc : decide (((i0 + 3 : Nat) : Int) ≤ IntKind.wrap .i64 (IntKind.wrap .i64 ((a : Int) + IntKind.wrap .i64 (IntKind.wrap .i64 ((n : Int).tdiv 4) * (2 : Int))) + 1)) = false := by
      rw [hq, wrapI _ (by omega) (by omega)]
      exact decide_eq_false (by omega)
    refine ev_seq (ev_rs [] rfl (by repeat' (first | exact trivial | exact gd_t | exact gd_f | exact (by decide : (4 : Int) ≠ 0) | exact (fun _ => rfl) | intro _ | apply And.intro | assumption | exact rfl | exact gd_t (by assumption) | exact gd_f (by assumption) | exact gd_a (by assumption) (by assumption) | exact gd_b (by assumption) (by assumption))) (ev_cf (congrArg (fun z => AV.p (PV.val (.bool z))) hc) (ev_exit ?_)))
    exact retX0 (fun i => i) (pre20 ys _) ⟨rfl, trivial⟩ (obs20 (by rw [hB]; rfl)) rfl

end Go.Proofs

/- slices.Sort, walked: at most nineteen different words. -/
set_option linter.unusedVariables false
namespace Go.Proofs
open Go Vinc Vinc.Num

theorem le_range {zs ys : List Nat} {a b : Nat} (h : Pm zs ys a b) (hn : zs.Nodup) (hb : b ≤ zs.length) (hlo : a = 0 ∨ ∀ u, a ≤ u → u < b → zs.getD (a - 1) 0 < zs.getD u 0) : a = 0 ∨ ∀ u, a ≤ u → u < b → ys.getD (a - 1) 0 < ys.getD u 0 := by
  rcases hlo with h0 | h1
  · exact .inl h0
  · by_cases ha : a = 0
    · exact .inl ha
    · refine .inr fun u h2 h3 => ?_
      obtain ⟨w, w1, w2, w3⟩ := h.back.find (h.nodup hn) (by rw [h.len]; exact hb) h2 h3
      rw [← w3, h.out (a - 1) (.inl (by omega))]
      exact h1 w w1 w2

set_option maxRecDepth 40000 in
set_option maxHeartbeats 8000000 in
theorem pdq_all (xs : List Nat) (L : Nat) (hnd : xs.Nodup) (h19 : xs.length ≤ 19) (hL : xs.length ≤ 11 + 2 * L) (hL2 : L ≤ 100) :
    CallSpecX Tryd.pr.P Tryd.pr.G 46 [.own 900 0 xs.length 1, .p (i64 ((0 : Nat) : Int)), .p (i64 xs.length), .p (i64 L)] [(900, ob64 xs)] [(900, ob64 (sortN xs))] (.p (.val (.tuple #[]))) := by
  refine callSpecX_of Tryd.pr Tryd.func46 rfl rfl rfl (fun z hz => ?_) (sub20 xs) fun w0 ok0 hok hG mine hmine lc => ?_
  · simp only [List.mem_cons, List.not_mem_nil, or_false] at hz
    rcases hz with rfl | rfl | rfl | rfl
    · exact List.mem_cons_self
    · trivial
    · trivial
    · trivial
  refine ev_rs [] rfl trivial ?_
  refine ev_rs [] rfl trivial ?_
  refine ev_block (ev_while (α := List Nat × Nat × Nat × Nat × Bool × Bool) (fun q => Pm xs q.1 0 xs.length ∧ q.2.1 ≤ q.2.2.1 ∧ q.2.2.1 ≤ xs.length ∧ sortR q.1 q.2.1 q.2.2.1 = sortN xs ∧ q.2.2.1 - q.2.1 ≤ 11 + 2 * q.2.2.2.1 ∧ q.2.2.2.1 ≤ 100 ∧ (q.2.1 = 0 ∨ ∀ u, q.2.1 ≤ u → u < q.2.2.1 → q.1.getD (q.2.1 - 1) 0 < q.1.getD u 0))
    (fun q => [(0, .own 900 0 xs.length 1), (1, .p (i64 q.2.1)), (2, .p (i64 q.2.2.1)), (3, .p (i64 q.2.2.2.1)), (8, .p (Vinc.bool q.2.2.2.2.1)), (9, .p (Vinc.bool q.2.2.2.2.2)), (1000, .is 900 (lc 900))]) (fun q => [(900, ob64 q.1)]) (fun q => q.2.2.1 - q.2.1) (xs, 0, xs.length, L, true, true)
    ⟨Pm.refl _ _ _, Nat.zero_le _, Nat.le_refl _, sortR_all xs, hL, hL2, .inl rfl⟩ (wk_ob rfl (fun hd => ⟨le_o rfl, le_refl hd _, le_refl hd _, le_refl hd _, le_refl hd _, le_refl hd _, le_s rfl, trivial⟩)) ?_)
  rintro ⟨zs, a, b, lim, wb, wp⟩ ⟨g1, g2, g3, g4, g5, g6, g7⟩
  dsimp only at g1 g2 g3 g4 g5 g6 g7
  have hzl := g1.len
  have hzn := g1.nodup hnd
  obtain ⟨n, hn⟩ : ∃ n, b - a = n := ⟨_, rfl⟩
  refine ev_block ?_
  refine ev_rs [] rfl trivial (ev_i 10 n rfl ((wrapI ((b : Int) - (a : Int)) (by omega) (by omega)).trans (show (b : Int) - (a : Int) = (n : Int) by omega)) ?_)
  by_cases h12 : n ≤ 12
  · have hI := ins_spec zs a b g2 (by omega) (by omega)
    rw [g4, hzl] at hI
    refine ev_seq (ev_rs [] rfl trivial (ev_ct (congrArg (fun z => AV.p (PV.val (.bool z))) (decide_eq_true (by omega : (n : Int) ≤ 12))) ?_))
    refine ev_rg [.x ⟨[.own 900 0 xs.length 1, .p (i64 a), .p (i64 b)], [(900, ob64 zs)], [(900, ob64 (sortN xs))], .p (.val (.tuple #[]))⟩] rfl ⟨⟨rfl, ⟨rfl, trivial⟩, hI⟩, trivial⟩ (ev_ret ?_)
    exact retX0 (fun i => i) (pre20 xs _) ⟨rfl, trivial⟩ (obs20 rfl) rfl
  have hlim : 1 ≤ lim := by omega
  refine ev_seq (ev_rs [] rfl trivial (ev_cf (congrArg (fun z => AV.p (PV.val (.bool z))) (decide_eq_false (by omega : ¬ (n : Int) ≤ 12))) (ev_sk ?_)))
  refine ev_seq (ev_rs [] rfl trivial (ev_cf (congrArg (fun z => AV.p (PV.val (.bool z))) (beq_eq_false_iff_ne.mpr (by omega : (lim : Int) ≠ 0))) (ev_sk ?_)))
  refine ev_at (α := List Nat × Nat) (fun q => Pm zs q.1 a b ∧ lim ≤ q.2 + 1 ∧ q.2 ≤ lim) (fun q => [(0, .own 900 0 xs.length 1), (1, .p (i64 a)), (2, .p (i64 b)), (3, .p (i64 q.2)), (8, .p (Vinc.bool wb)), (9, .p (Vinc.bool wp)), (10, .p (i64 n)), (1000, .is 900 (lc 900))]) (fun q => [(900, ob64 q.1)]) ?_ ?_
  · cases wb with
    | true =>
      refine ev_rs [] rfl trivial (ev_cf rfl (ev_skip ?_))
      exact at_wk (zs, lim) ⟨Pm.refl _ _ _, Nat.le_succ _, Nat.le_refl _⟩ (wk_ob rfl (fun hd => ⟨le_o rfl, le_refl hd _, le_refl hd _, le_refl hd _, le_refl hd _, le_refl hd _, le_refl hd _, le_s rfl, trivial⟩))
    | false =>
      have hB := break_spec zs a b n (by omega) (by omega) (by omega) (by omega)
      obtain ⟨e, he⟩ : ∃ e, len64 n = e := ⟨_, rfl⟩
      have hmd2 := pow_len (n := n) (by omega)
      have hpm := brkK_pm (nx := nxZ) (md := 2 ^ len64 n) (a := a) (n := n) (i0 := a + n / 4 * 2 - 1) (b := b) (ys := zs) (Nat.pow_pos (by decide)) hmd2 (by omega) (by omega) 3 (by omega) (by omega)
      obtain ⟨ys, hys⟩ : ∃ ys, (brkK nxZ (2 ^ len64 n) a n (a + n / 4 * 2 - 1) zs 3).2 = ys := ⟨_, rfl⟩
      rw [hys, hzl] at hB
      rw [hys] at hpm
      refine ev_rs [] rfl trivial (ev_ct rfl ?_)
      refine ev_rg [.x ⟨[.own 900 0 xs.length 1, .p (i64 a), .p (i64 b)], [(900, ob64 zs)], [(900, ob64 ys)], .p (.val (.tuple #[]))⟩] rfl ⟨⟨rfl, ⟨rfl, trivial⟩, hB⟩, trivial⟩ ?_
      exact ev_region [] rfl trivial (at_wk (ys, lim - 1) ⟨hpm, by dsimp only; omega, by dsimp only; omega⟩ (wk_ob rfl (fun hd => ⟨le_o rfl, le_refl hd _, le_refl hd _, le_n hd (congrArg (fun z => PV.val (.int .i64 z)) ((wrapI ((lim : Int) - 1) (by omega) (by omega)).trans (show (lim : Int) - 1 = ((lim - 1 : Nat) : Int) by omega))), le_refl hd _, le_refl hd _, le_refl hd _, le_s rfl, trivial⟩)))
  rintro ⟨ys, l2⟩ ⟨f1, f2, f3⟩
  dsimp only at f1 f2 f3
  have hyl : ys.length = xs.length := f1.len.trans hzl
  have hyn := f1.nodup hzn
  have f4 : sortR ys a b = sortN xs := (sortR_pm g2 (by omega) f1).trans g4
  have f5 := le_range f1 hzn (by omega) g7
  have f6 : Pm xs ys 0 xs.length := g1.trans (f1.mono (Nat.zero_le a) g3)
  have hC := choose_spec ys a b (by omega) (by omega) (by omega) (by omega)
  rw [hn, hyl] at hC
  have hmf := medK_facts (ys := ys) (x := a + n / 4 * 1) (y := a + n / 4 * 2) (z := a + n / 4 * 3) (nodup_ne hyn (by omega) (by omega) (by omega)) (nodup_ne hyn (by omega) (by omega) (by omega)) (nodup_ne hyn (by omega) (by omega) (by omega))
  obtain ⟨M, hM⟩ : ∃ M, medK ys (a + n / 4 * 1) (a + n / 4 * 2) (a + n / 4 * 3) = M := ⟨_, rfl⟩
  rw [hM] at hC hmf
  obtain ⟨v, cnt⟩ := M
  dsimp only at hC hmf
  obtain ⟨hcnt, s, t, hs, ht, hv, hsv, hvt⟩ := hmf
  have hvr : a ≤ v ∧ v < b := by omega
  have hsr : a ≤ s ∧ s < b := by omega
  have htr : a ≤ t ∧ t < b := by omega
  obtain ⟨hint, hhint⟩ : ∃ hint : Int, (if cnt = 0 then 1 else if cnt = 12 then 2 else 0) = hint := ⟨_, rfl⟩
  have hh2 : hint = 0 ∨ hint = 1 := by
    rw [← hhint]
    split
    · exact .inr rfl
    · rw [if_neg (by omega)]; exact .inl rfl
  rw [hhint] at hC
  refine ev_rg [.x ⟨[.own 900 0 xs.length 1, .p (i64 a), .p (i64 b)], [(900, ob64 ys)], [(900, ob64 ys)], .tp 2 (twoA (.p (i64 v)) (.p (i64 hint)))⟩] rfl ⟨⟨rfl, ⟨rfl, trivial⟩, hC⟩, trivial⟩ ?_
  refine ev_seq (ev_rs [] rfl trivial (ev_cf (congrArg (fun z => AV.p (PV.val (.bool z))) (beq_eq_false_iff_ne.mpr (by omega : hint ≠ 2))) (ev_sk ?_)))
  refine ev_at (α := Unit) (fun _ => True) (fun _ => [(0, .own 900 0 xs.length 1), (1, .p (i64 a)), (2, .p (i64 b)), (3, .p (i64 l2)), (10, .p (i64 n)), (11, .p (i64 v)), (1000, .is 900 (lc 900))]) (fun _ => [(900, ob64 ys)]) ?_ ?_
  · have go : ∀ {σ : St}, True := trivial
    obtain ⟨R, hR⟩ : ∃ R : Bool, R = true ↔ Asc ys a b := by
      by_cases h : Asc ys a b
      · exact ⟨true, fun _ => h, fun _ => rfl⟩
      · exact ⟨false, fun e => Bool.noConfusion e, fun e => absurd e h⟩
    have hP := partIns_spec ys a b (by omega) (by omega) (by omega) (by omega) R hR
    rw [hyl] at hP
    cases hcb : (bif (bif wb then wp else false) then (hint == 1) else false) with
    | false =>
      refine ev_rs [] rfl (by repeat' (first | exact trivial | exact gd_t | exact gd_f | exact (fun _ => rfl) | intro _ | apply And.intro | assumption | exact rfl | exact gd_t (by assumption) | exact gd_f (by assumption) | exact gd_a (by assumption) (by assumption) | exact gd_b (by assumption) (by assumption))) (ev_cf (congrArg (fun z => AV.p (PV.val (.bool z))) hcb) (ev_skip ?_))
      exact at_wk () trivial (wk_ob rfl (fun hd => ⟨le_o rfl, le_refl hd _, le_refl hd _, le_refl hd _, le_refl hd _, le_refl hd _, le_s rfl, trivial⟩))
    | true =>
      refine ev_rs [] rfl (by repeat' (first | exact trivial | exact gd_t | exact gd_f | exact (fun _ => rfl) | intro _ | apply And.intro | assumption | exact rfl | exact gd_t (by assumption) | exact gd_f (by assumption) | exact gd_a (by assumption) (by assumption) | exact gd_b (by assumption) (by assumption))) (ev_ct (congrArg (fun z => AV.p (PV.val (.bool z))) hcb) ?_)
      refine ev_rg [.x ⟨[.own 900 0 xs.length 1, .p (i64 a), .p (i64 b)], [(900, ob64 ys)], [(900, ob64 ys)], .p (Vinc.bool R)⟩] rfl ⟨⟨rfl, ⟨rfl, trivial⟩, hP⟩, trivial⟩ ?_
      cases R with
      | true =>
        have hs := (hR.mp rfl).sortR g2 (by omega)
        rw [f4] at hs
        refine ev_ct rfl (ev_ret ?_)
        exact retX0 (fun i => i) (pre20 xs _) ⟨rfl, trivial⟩ (obs20 (congrArg (fun l => some (ob64 l)) hs.symm)) rfl
      | false =>
        refine ev_cf rfl (ev_skip ?_)
        exact at_wk () trivial (wk_ob rfl (fun hd => ⟨le_o rfl, le_refl hd _, le_refl hd _, le_refl hd _, le_refl hd _, le_refl hd _, le_s rfl, trivial⟩))
  rintro ⟨⟩ -
  refine ev_at (α := Unit) (fun _ => True) (fun _ => [(0, .own 900 0 xs.length 1), (1, .p (i64 a)), (2, .p (i64 b)), (3, .p (i64 l2)), (10, .p (i64 n)), (11, .p (i64 v)), (1000, .is 900 (lc 900))]) (fun _ => [(900, ob64 ys)]) ?_ ?_
  · have v0 : (0 : Int) ≤ (v : Int) := by omega
    have v1 : (v : Int) < (xs.length : Int) := by omega
    have v2 : v < ys.length := by omega
    rcases f5 with ha | ha
    · have hc : decide ((a : Int) > 0) = false := decide_eq_false (by omega)
      have hno : ∀ {P : Prop}, (decide ((a : Int) > 0) == true) = true → P := fun e => by rw [hc] at e; cases e
      refine ev_ds [Vinc.bool false] (by kernel_rfl) rfl rfl (by repeat' (first | exact trivial | exact gd_t | exact gd_f | exact fun e => hno e | exact (fun _ => rfl) | intro _ | apply And.intro | assumption | exact rfl | exact gd_t (by assumption) | exact gd_f (by assumption) | exact gd_a (by assumption) (by assumption) | exact gd_b (by assumption) (by assumption))) ?_
      refine ev_cf (congrArg (fun z => AV.p (PV.val (.bool z))) (show (bif decide ((a : Int) > 0) then !false else false) = false by rw [hc]; rfl)) (ev_skip ?_)
      exact at_wk () trivial (wk_ob rfl (fun hd => ⟨le_o rfl, le_refl hd _, le_refl hd _, le_refl hd _, le_refl hd _, le_refl hd _, le_s rfl, trivial⟩))
    · by_cases ha0 : a = 0
      · have hc : decide ((a : Int) > 0) = false := decide_eq_false (by omega)
        have hno : ∀ {P : Prop}, (decide ((a : Int) > 0) == true) = true → P := fun e => by rw [hc] at e; cases e
        refine ev_ds [Vinc.bool false] (by kernel_rfl) rfl rfl (by repeat' (first | exact trivial | exact gd_t | exact gd_f | exact fun e => hno e | exact (fun _ => rfl) | intro _ | apply And.intro | assumption | exact rfl | exact gd_t (by assumption) | exact gd_f (by assumption) | exact gd_a (by assumption) (by assumption) | exact gd_b (by assumption) (by assumption))) ?_
        refine ev_cf (congrArg (fun z => AV.p (PV.val (.bool z))) (show (bif decide ((a : Int) > 0) then !false else false) = false by rw [hc]; rfl)) (ev_skip ?_)
        exact at_wk () trivial (wk_ob rfl (fun hd => ⟨le_o rfl, le_refl hd _, le_refl hd _, le_refl hd _, le_refl hd _, le_refl hd _, le_s rfl, trivial⟩))
      · have hlt := ha v hvr.1 hvr.2
        have ek : IntKind.wrap .i64 ((a : Int) - 1) = ((a - 1 : Nat) : Int) := (wrapI _ (by omega) (by omega)).trans (by omega)
        have e5 : (IntKind.wrap .i64 ((a : Int) - 1)).toNat = a - 1 := by rw [ek, Int.toNat_natCast]
        have c1 : (IntKind.wrap .i64 ((a : Int) - 1)).toNat < ys.length := by rw [e5]; omega
        have c2 : 0 ≤ IntKind.wrap .i64 ((a : Int) - 1) := by rw [ek]; omega
        have c3 : IntKind.wrap .i64 ((a : Int) - 1) < (xs.length : Int) := by rw [ek]; omega
        have hLe : CallSpec Tryd.pr.P Tryd.pr.G 65 [u64 (ys.getD (IntKind.wrap .i64 ((a : Int) - 1)).toNat 0), u64 (ys.getD v 0)] (Vinc.bool true) := by
          rw [e5]
          have := less_spec (ys.getD (a - 1) 0) (ys.getD v 0)
          rwa [decide_eq_true (by omega)] at this
        refine ev_ds [Vinc.bool true] (by kernel_rfl) rfl rfl (by repeat' (first | exact trivial | exact gd_t | exact gd_f | exact v0 | exact v1 | exact v2 | exact c1 | exact c2 | exact c3 | exact .inl hLe | exact (fun _ => rfl) | intro _ | apply And.intro | assumption | exact rfl | exact gd_t (by assumption) | exact gd_f (by assumption) | exact gd_a (by assumption) (by assumption) | exact gd_b (by assumption) (by assumption))) ?_
        refine ev_cf (congrArg (fun z => AV.p (PV.val (.bool z))) (show (bif decide ((a : Int) > 0) then !true else false) = false by cases decide ((a : Int) > 0) <;> rfl)) (ev_skip ?_)
        exact at_wk () trivial (wk_ob rfl (fun hd => ⟨le_o rfl, le_refl hd _, le_refl hd _, le_refl hd _, le_refl hd _, le_refl hd _, le_s rfl, trivial⟩))
  rintro ⟨⟩ -
  have hPt := partition_spec ys a b v hvr.1 hvr.2 (by omega) (by omega) (by omega)
  have hPf := partK_facts (ys := ys) hvr.1 hvr.2 (by omega) (by omega)
  obtain ⟨PK, hPK⟩ : ∃ PK, partK ys a b v = PK := ⟨_, rfl⟩
  rw [hPK] at hPt hPf
  rw [hyl] at hPt
  obtain ⟨ws, m, al⟩ := PK
  dsimp only at hPt hPf
  obtain ⟨hm1, hm2⟩ := hPf.both (by omega) hyn hsr.1 hsr.2 htr.1 htr.2 hsv hvt
  obtain ⟨lo1, lo2⟩ := sortR_lo (by omega) hyn hPf
  have hi1 := sortR_hi (by omega) hyn hPf
  have hwl : ws.length = xs.length := hPf.pm.len.trans hyl
  have hwn := hPf.pm.nodup hyn
  have p6 : Pm xs ws 0 xs.length := f6.trans (hPf.pm.mono (Nat.zero_le a) g3)
  refine ev_rg [.x ⟨[.own 900 0 xs.length 1, .p (i64 a), .p (i64 b), .p (i64 v)], [(900, ob64 ys)], [(900, ob64 ws)], .tp 2 (twoA (.p (i64 m)) (.p (Vinc.bool al)))⟩] rfl ⟨⟨rfl, ⟨rfl, trivial⟩, hPt⟩, trivial⟩ ?_
  refine ev_wk (wk_ob (i := 900) (xs := ws) (l := [(0, .own 900 0 xs.length 1), (1, .p (i64 a)), (2, .p (i64 b)), (3, .p (i64 l2)), (10, .p (i64 n)), (14, .p (i64 m)), (15, .p (Vinc.bool al)), (1000, .is 900 (lc 900))]) rfl (fun hd => ⟨le_o rfl, le_refl hd _, le_refl hd _, le_refl hd _, le_refl hd _, le_refl hd _, le_refl hd _, le_s rfl, trivial⟩)) ?_
  refine ev_rs [] rfl trivial ?_
  refine ev_rs [] rfl trivial ?_
  refine ev_i 16 (m - a) rfl ((wrapI _ (by omega) (by omega)).trans (show (m : Int) - (a : Int) = ((m - a : Nat) : Int) by omega)) ?_
  refine ev_i 17 (b - m) rfl ((wrapI _ (by omega) (by omega)).trans (show (b : Int) - (m : Int) = ((b - m : Nat) : Int) by omega)) ?_
  refine ev_rs [] rfl (by repeat' (first | exact trivial | exact gd_t | exact gd_f | exact (by decide : (8 : Int) ≠ 0) | exact (fun _ => rfl) | intro _ | apply And.intro | assumption | exact rfl | exact gd_t (by assumption) | exact gd_f (by assumption) | exact gd_a (by assumption) (by assumption) | exact gd_b (by assumption) (by assumption))) ?_
  refine ev_i 18 (n / 8) rfl ((wrapI _ (by have : (n : Int).tdiv 8 = ((n / 8 : Nat) : Int) := rfl; rw [this]; omega) (by have : (n : Int).tdiv 8 = ((n / 8 : Nat) : Int) := rfl; rw [this]; omega)).trans rfl) ?_
  by_cases hlr : m - a < b - m
  · have hS := pdq_small ws a m l2 (by omega) (by omega) (by omega) (by omega)
    obtain ⟨us, hus⟩ : ∃ us, sortR ws a m = us := ⟨_, rfl⟩
    have q6 : Pm xs us 0 xs.length := p6.trans (hus ▸ (sortR_facts ws (by omega : a ≤ m) (by omega)).1.mono (Nat.zero_le a) (by omega))
    rw [hus, hwl] at hS
    rw [hus] at lo1 lo2
    refine ev_rs [] rfl trivial (ev_ct (congrArg (fun z => AV.p (PV.val (.bool z))) (decide_eq_true (by omega : ((m - a : Nat) : Int) < ((b - m : Nat) : Int)))) ?_)
    refine ev_rs [] rfl trivial ?_
    refine ev_rg [.x ⟨[.own 900 0 xs.length 1, .p (i64 a), .p (i64 m), .p (i64 l2)], [(900, ob64 ws)], [(900, ob64 us)], .p (.val (.tuple #[]))⟩] rfl ⟨⟨rfl, ⟨rfl, trivial⟩, hS⟩, trivial⟩ ?_
    refine ev_region [] rfl trivial ⟨(us, m + 1, b, l2, decide (((m - a : Nat) : Int) ≥ ((n / 8 : Nat) : Int)), al), ⟨q6, by dsimp only; omega, g3, lo1.trans f4, by dsimp only; omega, by dsimp only; omega, .inr fun u h1 h2 => by
      have := lo2 u (by dsimp only at h1; omega) h2
      exact this⟩, by dsimp only; omega, wk_ob rfl (fun hd => ⟨le_o rfl, le_n hd (congrArg (fun z => PV.val (.int .i64 z)) ((wrapI _ (by omega) (by omega)).trans (show (m : Int) + 1 = ((m + 1 : Nat) : Int) by omega))), le_refl hd _, le_refl hd _, le_refl hd _, le_refl hd _, le_s rfl, trivial⟩)⟩
  · have hS := pdq_small ws (m + 1) b l2 (by omega) (by omega) (by omega) (by omega)
    have hsf := (sortR_facts ws (by omega : m + 1 ≤ b) (by omega)).1
    obtain ⟨us, hus⟩ : ∃ us, sortR ws (m + 1) b = us := ⟨_, rfl⟩
    rw [hus] at hsf
    have q6 : Pm xs us 0 xs.length := p6.trans (hsf.mono (Nat.zero_le _) g3)
    rw [hus, hwl] at hS
    rw [hus] at hi1
    have ew : IntKind.wrap .i64 ((m : Int) + 1) = ((m + 1 : Nat) : Int) := (wrapI _ (by omega) (by omega)).trans (by omega)
    have f7 := le_range (hPf.pm.trans (hsf.mono (by omega) (Nat.le_refl b))) hyn (by omega) f5
    have f8 : a = 0 ∨ ∀ u, a ≤ u → u < m → us.getD (a - 1) 0 < us.getD u 0 := by
      rcases f7 with h | h
      · exact .inl h
      · exact .inr fun u h1 h2 => h u h1 (by omega)
    have hS' : CallSpecX Tryd.pr.P Tryd.pr.G 46 [.own 900 0 xs.length 1, .p (i64 (IntKind.wrap .i64 ((m : Int) + 1))), .p (i64 b), .p (i64 l2)] [(900, ob64 ws)] [(900, ob64 us)] (.p (.val (.tuple #[]))) := by rw [ew]; exact hS
    refine ev_rs [] rfl trivial (ev_cf (congrArg (fun z => AV.p (PV.val (.bool z))) (decide_eq_false (by omega : ¬ ((m - a : Nat) : Int) < ((b - m : Nat) : Int)))) ?_)
    refine ev_rs [] rfl trivial ?_
    refine ev_rg [.x ⟨[.own 900 0 xs.length 1, .p (i64 (IntKind.wrap .i64 ((m : Int) + 1))), .p (i64 b), .p (i64 l2)], [(900, ob64 ws)], [(900, ob64 us)], .p (.val (.tuple #[]))⟩] rfl ⟨⟨rfl, ⟨rfl, trivial⟩, hS'⟩, trivial⟩ ?_
    exact ev_region [] rfl trivial ⟨(us, a, m, l2, decide (((b - m : Nat) : Int) ≥ ((n / 8 : Nat) : Int)), al), ⟨q6, by dsimp only; omega, by dsimp only; omega, hi1.trans f4, by dsimp only; omega, by dsimp only; omega, f8⟩, by dsimp only; omega, wk_ob rfl (fun hd => ⟨le_o rfl, le_refl hd _, le_refl hd _, le_refl hd _, le_refl hd _, le_refl hd _, le_s rfl, trivial⟩)⟩

end Go.Proofs

/- The laws of roots: what the roots are. -/
set_option linter.unusedVariables false
namespace Go.Proofs
open Go Vinc Vinc.Num

theorem sort_all (xs : List Nat) (hnd : xs.Nodup) (h19 : xs.length ≤ 19) :
    CallSpecX Tryd.pr.P Tryd.pr.G 29 [.own 900 0 xs.length 1] [(900, ob64 xs)] [(900, ob64 (sortN xs))] (.p (.val (.tuple #[]))) := by
  by_cases h12 : xs.length ≤ 12
  · exact sort_spec xs h12
  have hlen : 4 ≤ len64 xs.length ∧ len64 xs.length ≤ 64 := by
    unfold len64
    rw [if_neg (by omega)]
    have h1 : Nat.log2 xs.length < 6 := (Nat.log2_lt (by omega)).mpr (by omega)
    have h2 : 3 ≤ Nat.log2 xs.length := (Nat.le_log2 (by omega)).mpr (by omega)
    omega
  have hw : IntKind.wrap .u64 (xs.length : Int) = (xs.length : Int) := (wrapN xs.length).trans (congrArg (fun n : Nat => (n : Int)) (Nat.mod_eq_of_lt (by omega)))
  have hB : CallSpec Tryd.pr.P Tryd.pr.G 47 [PV.val (.int .u64 (IntKind.wrap .u64 (xs.length : Int)))] (i64 (len64 xs.length)) := by
    rw [hw]
    exact bitsLen_spec _ (by omega)
  have hS := pdq_all xs (len64 xs.length) hnd h19 (by omega) (by omega)
  refine callSpecX_of Tryd.pr Tryd.func29 rfl rfl rfl (fun z hz => ?_) (sub20 xs) fun w0 ok0 hok hG mine hmine lc => ?_
  · obtain rfl := List.mem_singleton.mp hz
    exact List.mem_cons_self
  refine ev_rs [] rfl trivial ?_
  refine ev_regionG [.v (i64 (len64 xs.length)), .x ⟨[.own 900 0 xs.length 1, .p (i64 ((0 : Nat) : Int)), .p (i64 xs.length), .p (i64 (len64 xs.length))], [(900, ob64 xs)], [(900, ob64 (sortN xs))], .p (.val (.tuple #[]))⟩] rfl (by repeat' (first | exact trivial | exact gd_t | exact gd_f | exact .inl hB | exact hS | exact (fun _ => rfl) | intro _ | apply And.intro | assumption | exact rfl | exact gd_t (by assumption) | exact gd_f (by assumption) | exact gd_a (by assumption) (by assumption) | exact gd_b (by assumption) (by assumption))) ?_
  exact retX0 (fun i => i) (pre20 xs _) ⟨rfl, trivial⟩ (obs20 rfl) rfl

theorem sorts_all {p : Nat} {a : List Nat} (h : (rootsN p a).length ≤ 19) : SortsR (rootsN p a) := fun xs hx => sort_all xs (hx.nodup_iff.mpr ((rootsN_lt p a).imp fun h => Nat.ne_of_lt h)) (by rw [hx.length_eq]; exact h)

theorem or3_any : ∀ a b c : Bool, (bif (bif a then true else b) then true else c) = false → a = false ∧ b = false ∧ c = false := by decide

set_option maxRecDepth 40000 in
theorem RootsFinds_spec (p : Nat) (a seeds : List Nat) (hp : p < 18446744073709551616) : CallSpec Tryd.pr.P Tryd.pr.G 3 [u64 p, u64s a, u64s seeds] (Vinc.bool true) := by
  refine callSpec_of Tryd.pr Tryd.func3 rfl rfl rfl fun w0 ok0 hok hG => ?_
  refine ev_rs [] rfl trivial ?_
  refine ev_seq (ev_rs [] rfl (by repeat' (first | exact trivial | exact gd_t | exact gd_f | exact (fun _ => rfl) | intro _ | apply And.intro | assumption | exact rfl | exact gd_t (by assumption) | exact gd_f (by assumption) | exact gd_a (by assumption) (by assumption) | exact gd_b (by assumption) (by assumption))) (ev_cond rfl (fun h => ?_) (fun h => ev_sk ?_)))
  · exact ev_rs [Vinc.bool true] rfl ⟨.inl awake11_spec, trivial⟩ (ev_ret (ret1 (fz_p (PLe.refl _))))
  obtain ⟨g0, g1, g2⟩ := or3_any _ _ _ h
  have hp300 : p ≤ 300 := by have := of_decide_eq_false g0; omega
  have hl : a.length ≤ 20 := by have := of_decide_eq_false g1; omega
  have hl2 : seeds.length ≤ 20 := by have := of_decide_eq_false g2; omega
  have hIs := RefIs_spec p (by omega)
  by_cases hA : Asked p
  · have hpr : primeB p = true := primeB_t (asked_prime hA)
    rw [hpr] at hIs
    have hm := asked_may hA
    have hb := isB_asked hA
    have hf := asked_fd hA
    have hp0 := hf.pos
    have hp1 := hf.prime.1
    have hln := length_normN p a
    have hN := RNorm_spec hm a (by omega)
    by_cases h0 : (normN p a).length = 0
    · have hR := callSpec_res (PLe.two2 (x' := u64s []) PLe.nil (PLe.refl _)) (Roots_zero hA a seeds (by omega) h0)
      have hL := callSpec_res (PLe.two2 (x' := u64s []) PLe.nil (PLe.refl _)) (Linear_zero hm hb a (by omega) h0)
      have hc : (((normN p a).length : Int) == 0) = true := by rw [h0]; rfl
      refine ev_rs [.tup 2 (two (u64s []) (i64 1))] rfl ⟨.inl hR, trivial⟩ ?_
      refine ev_rs [.tup 2 (two (u64s []) (i64 1))] rfl ⟨.inl hL, trivial⟩ ?_
      refine ev_seq (ev_rs [Vinc.bool true] rfl ⟨.inl hIs, trivial⟩ (ev_cf rfl (ev_sk ?_)))
      refine ev_seq (ev_rs [u64s (normN p a)] rfl (by repeat' (first | exact trivial | exact gd_t | exact gd_f | exact .inl hN | exact (fun _ => rfl) | intro _ | apply And.intro | assumption | exact rfl | exact gd_t (by assumption) | exact gd_f (by assumption) | exact gd_a (by assumption) (by assumption) | exact gd_b (by assumption) (by assumption))) (ev_ct (congrArg (fun z => AV.p (PV.val (.bool z))) hc) ?_))
      exact ev_rs [Vinc.bool true] rfl (by repeat' (first | exact trivial | exact gd_t | exact gd_f | exact .inl awake11_spec | exact (fun _ => rfl) | intro _ | apply And.intro | assumption | exact rfl | exact gd_t (by assumption) | exact gd_f (by assumption) | exact gd_a (by assumption) (by assumption) | exact gd_b (by assumption) (by assumption))) (ev_ret (ret1 (fz_p (PLe.of_eq rfl))))
    have h0 : 0 < (normN p a).length := by omega
    have hc : (((normN p a).length : Int) == 0) = false := beq_eq_false_iff_ne.mpr (by omega)
    have hrl := roots_few hf h0
    have hL := Linear_ok hm hb hf a (by omega) h0
    have hS := sorts_all (p := p) (a := a) (by omega)
    have hRo : ∃ e m, CallSpec Tryd.pr.P Tryd.pr.G 8 [u64 p, u64s a, u64s seeds] (.tup 2 (two (u64s m) (i64 e))) ∧ ((AllP p (rootsN p a) seeds ∧ e = 0 ∧ m = rootsN p a) ∨ (¬ AllP p (rootsN p a) seeds ∧ e = 12 ∧ m = [])) := by
      by_cases hall : AllP p (rootsN p a) seeds
      · exact ⟨_, _, Roots_told hA a seeds (by omega) h0 (by omega) hS hall, .inl ⟨hall, rfl, rfl⟩⟩
      · exact ⟨12, [], callSpec_res (PLe.two2 PLe.nil (PLe.refl _)) (Roots_untold hA a seeds (by omega) h0 (by omega) hS hall), .inr ⟨hall, rfl, rfl⟩⟩
    have hRR := RRoots_spec hm a (by omega) (by omega)
    obtain ⟨R, hR⟩ : ∃ R, rootsN p a = R := ⟨_, rfl⟩
    rw [hR] at hrl hL hRo hRR
    have hRF := RFrom_spec hm R (by omega)
    have hSd := same_t (prodF p R) (by rw [(prodF_len hp1 R).1]; omega)
    obtain ⟨d, hd⟩ : ∃ d, prodF p R = d := ⟨_, rfl⟩
    rw [hd] at hL hRF hSd
    obtain ⟨e, m, hRo, hcase⟩ := hRo
    have hAll := RAll_spec hm R seeds (by omega) (by omega)
    refine ev_rs [.tup 2 (two (u64s m) (i64 e))] rfl ⟨.inl hRo, trivial⟩ ?_
    refine ev_rs [.tup 2 (two (u64s d) (i64 0))] rfl ⟨.inl hL, trivial⟩ ?_
    refine ev_seq (ev_rs [Vinc.bool true] rfl ⟨.inl hIs, trivial⟩ (ev_cf rfl (ev_sk ?_)))
    refine ev_seq (ev_rs [u64s (normN p a)] rfl (by repeat' (first | exact trivial | exact gd_t | exact gd_f | exact .inl hN | exact (fun _ => rfl) | intro _ | apply And.intro | assumption | exact rfl | exact gd_t (by assumption) | exact gd_f (by assumption) | exact gd_a (by assumption) (by assumption) | exact gd_b (by assumption) (by assumption))) (ev_cf (congrArg (fun z => AV.p (PV.val (.bool z))) hc) (ev_sk ?_)))
    refine ev_rs [u64s R] rfl ⟨.inl hRR, trivial⟩ ?_
    refine ev_seq (ev_rs [u64s d, Vinc.bool true] rfl (by repeat' (first | exact trivial | exact gd_t | exact gd_f | exact .inl hRF | exact .inl hSd | exact (fun _ => rfl) | intro _ | apply And.intro | assumption | exact rfl | exact gd_t (by assumption) | exact gd_f (by assumption) | exact gd_a (by assumption) (by assumption) | exact gd_b (by assumption) (by assumption))) (ev_cf rfl (ev_sk ?_)))
    rcases hcase with ⟨hall, rfl, rfl⟩ | ⟨hall, rfl, rfl⟩
    · have hAt := hAll true ⟨fun _ => hall, fun _ => rfl⟩
      have hSm := same_t m (by omega)
      refine ev_seq (ev_rs [Vinc.bool true] rfl ⟨.inl hAt, trivial⟩ (ev_cf rfl (ev_sk ?_)))
      exact ev_rs [Vinc.bool true, Vinc.bool true] rfl (by repeat' (first | exact trivial | exact gd_t | exact gd_f | exact .inl hSm | exact .inl awake11_spec | exact (fun _ => rfl) | intro _ | apply And.intro | assumption | exact rfl | exact gd_t (by assumption) | exact gd_f (by assumption) | exact gd_a (by assumption) (by assumption) | exact gd_b (by assumption) (by assumption))) (ev_ret (ret1 (fz_p (PLe.of_eq rfl))))
    · have hAf := hAll false ⟨fun h => Bool.noConfusion h, fun h => absurd h hall⟩
      refine ev_seq (ev_rs [Vinc.bool false] rfl ⟨.inl hAf, trivial⟩ (ev_ct rfl ?_))
      exact ev_rs [Vinc.bool true] rfl (by repeat' (first | exact trivial | exact gd_t | exact gd_f | exact .inl awake11_spec | exact (fun _ => rfl) | intro _ | apply And.intro | assumption | exact rfl | exact gd_t (by assumption) | exact gd_f (by assumption) | exact gd_a (by assumption) (by assumption) | exact gd_b (by assumption) (by assumption))) (ev_ret (ret1 (fz_p (PLe.of_eq rfl))))
  · have hpr : primeB p = false := primeB_f fun h => hA (.inr (.inr (.inr ⟨by omega, h⟩)))
    rw [hpr] at hIs
    have hB : ¬ (p < 9223372036854775808 ∧ isB p = true) := fun h => by
      have := isB_not hA (by omega)
      rw [h.2] at this; cases this
    have hL0 := Linear_no hp hB a
    have hR := callSpec_res (PLe.two2 (x' := u64s []) PLe.nil (PLe.refl _)) (Roots_bad (seeds := seeds) (e := 14) (by decide) hL0)
    have hL := callSpec_res (PLe.two2 (x' := u64s []) PLe.nil (PLe.refl _)) hL0
    refine ev_rs [.tup 2 (two (u64s []) (i64 14))] rfl ⟨.inl hR, trivial⟩ ?_
    refine ev_rs [.tup 2 (two (u64s []) (i64 14))] rfl ⟨.inl hL, trivial⟩ ?_
    refine ev_seq (ev_rs [Vinc.bool false] rfl ⟨.inl hIs, trivial⟩ (ev_ct rfl ?_))
    exact ev_rs [Vinc.bool true] rfl (by repeat' (first | exact trivial | exact gd_t | exact gd_f | exact .inl awake11_spec | exact (fun _ => rfl) | intro _ | apply And.intro | assumption | exact rfl | exact gd_t (by assumption) | exact gd_f (by assumption) | exact gd_a (by assumption) (by assumption) | exact gd_b (by assumption) (by assumption))) (ev_ret (ret1 (fz_p (PLe.of_eq rfl))))

end Go.Proofs
