/- Part 6 of the proof's texts, joined: Nl, Nm, Nn, No, Np, Half, Ref09, Upo, Nq, Law09, Mulw, Nil09, Upo2, Upo3, Law09d, Nr, Ns. -/
import Derived.Test.YtmpfgaebmdbdeaaGreatDoorB5

/- Transforms at some points, walked: back again. -/
set_option linter.unusedVariables false
namespace Go.Proofs
open Go Vinc Vinc.Num

theorem PLe.dropS {xs : List Nat} {m n : Nat} (hn : n = xs.length - m) : PLe (.sl n 1 (shiftF (fun j => u64 (xs.getD j 0)) m)) (u64s (xs.drop m)) := by
  subst hn
  rw [sl_drop]
  exact PLe.refl _

section
variable {p K hlf : Nat} {rs : List Nat}

theorem whole_none (kn : List Nat) (k s c : Nat) : CallSpec Tryz.pr.P Tryz.pr.G 92 [planP p K rs hlf, u64s [], u64s kn, partP k s c] (u64s kn) := by
  refine callSpec_of Tryz.pr Tryz.func92 rfl rfl rfl fun w0 ok0 hok hG => ?_
  refine ev_rs [] rfl (by repeat' (first | exact trivial | exact gd_t | exact gd_f | exact leb rfl | exact (fun _ => rfl) | intro _ | apply And.intro | assumption | exact rfl | exact gd_t (by assumption) | exact gd_f (by assumption) | exact gd_a (by assumption) (by assumption) | exact gd_b (by assumption) (by assumption))) ?_
  refine ev_rs [] rfl trivial ?_
  refine ev_seq (ev_block ?_)
  refine ev_rs [] rfl trivial (ev_ct rfl ?_)
  exact ev_rs [] rfl trivial (ev_ret (ret1 (fz_p (PLe.refl _))))

theorem whole_one (vs kn : List Nat) (h0 : vs.length ≠ 0) (s c : Nat) : CallSpec Tryz.pr.P Tryz.pr.G 92 [planP p K rs hlf, u64s vs, u64s kn, partP 0 s c] (u64s vs) := by
  refine callSpec_of Tryz.pr Tryz.func92 rfl rfl rfl fun w0 ok0 hok hG => ?_
  refine ev_rs [] rfl (by repeat' (first | exact trivial | exact gd_t | exact gd_f | exact leb rfl | exact (fun _ => rfl) | intro _ | apply And.intro | assumption | exact rfl | exact gd_t (by assumption) | exact gd_f (by assumption) | exact gd_a (by assumption) (by assumption) | exact gd_b (by assumption) (by assumption))) ?_
  refine ev_rs [] rfl trivial ?_
  refine ev_seq (ev_block ?_)
  refine ev_rs [] rfl trivial (ev_cf (congrArg (fun z => AV.p (PV.val (.bool z))) (show ((vs.length : Int) == 0) = false from beq_eq_false_iff_ne.mpr (by omega))) ?_)
  refine ev_rs [] rfl (by repeat' (first | exact trivial | exact gd_t | exact gd_f | exact leb rfl | exact (fun _ => rfl) | intro _ | apply And.intro | assumption | exact rfl | exact gd_t (by assumption) | exact gd_f (by assumption) | exact gd_a (by assumption) (by assumption) | exact gd_b (by assumption) (by assumption))) (ev_ct rfl ?_)
  exact ev_rs [] rfl trivial (ev_ret (ret1 (fz_p (PLe.refl _))))

set_option maxRecDepth 40000 in
theorem whole_low (k : Nat) (hk : k < 12) (s c : Nat) (vs kn o : List Nat) (h0 : vs.length ≠ 0) (hlt : vs.length < 2 ^ k)
    (hL : CallSpec Tryz.pr.P Tryz.pr.G 106 [planP p K rs hlf, u64s vs, u64s kn, partP (k + 1) s c, i64 ((2 ^ k : Nat) : Int)] (u64s o)) :
    CallSpec Tryz.pr.P Tryz.pr.G 92 [planP p K rs hlf, u64s vs, u64s kn, partP (k + 1) s c] (u64s o) := by
  have e1 : IntKind.wrap .i64 (((k + 1 : Nat) : Int) - 1) = (k : Int) := (wrapI _ (by omega) (by omega)).trans (by omega)
  have es : IntKind.wrap .i64 (1 * 2 ^ (min (IntKind.wrap .u64 (IntKind.wrap .i64 (((k + 1 : Nat) : Int) - 1))).toNat (IntKind.bits .i64))) = ((2 ^ k : Nat) : Int) := by rw [e1]; exact shl_pow k hk
  have ef : 0 ≤ IntKind.wrap .u64 (IntKind.wrap .i64 (((k + 1 : Nat) : Int) - 1)) := by rw [e1]; exact shl_fit k hk
  have hN := pow_fit k hk
  generalize 2 ^ k = h at *
  refine callSpec_of Tryz.pr Tryz.func92 rfl rfl rfl fun w0 ok0 hok hG => ?_
  refine ev_rs [] rfl (by repeat' (first | exact trivial | exact gd_t | exact gd_f | exact leb rfl | exact (fun _ => rfl) | intro _ | apply And.intro | assumption | exact rfl | exact gd_t (by assumption) | exact gd_f (by assumption) | exact gd_a (by assumption) (by assumption) | exact gd_b (by assumption) (by assumption))) ?_
  refine ev_rs [] rfl trivial ?_
  refine ev_seq (ev_block ?_)
  refine ev_rs [] rfl trivial (ev_cf (congrArg (fun z => AV.p (PV.val (.bool z))) (show ((vs.length : Int) == 0) = false from beq_eq_false_iff_ne.mpr (by omega))) ?_)
  refine ev_rs [] rfl (by repeat' (first | exact trivial | exact gd_t | exact gd_f | exact leb rfl | exact (fun _ => rfl) | intro _ | apply And.intro | assumption | exact rfl | exact gd_t (by assumption) | exact gd_f (by assumption) | exact gd_a (by assumption) (by assumption) | exact gd_b (by assumption) (by assumption))) (ev_cf (congrArg (fun z => AV.p (PV.val (.bool z))) (show (((k + 1 : Nat) : Int) == 0) = false from beq_eq_false_iff_ne.mpr (by omega))) (ev_skip ?_))
  refine ev_rs [] rfl (by repeat' (first | exact trivial | exact gd_t | exact gd_f | exact leb rfl | exact ef | exact (fun _ => rfl) | intro _ | apply And.intro | assumption | exact rfl | exact gd_t (by assumption) | exact gd_f (by assumption) | exact gd_a (by assumption) (by assumption) | exact gd_b (by assumption) (by assumption))) (ev_eq 10 (.p (i64 h)) (congrArg (fun z => AV.p (PV.val (.int .i64 z))) es) ?_)
  refine ev_seq (ev_rs [] rfl trivial (ev_ct (congrArg (fun z => AV.p (PV.val (.bool z))) (decide_eq_true (by omega) : decide ((vs.length : Int) < (h : Int)) = true)) ?_))
  exact ev_rs [u64s o] rfl (by repeat' (first | exact trivial | exact gd_t | exact gd_f | exact leb rfl | exact .inl (callSpec_args (as' := [planP p K rs hlf, u64s vs, u64s kn, partP (k + 1) s c, i64 (h : Int)]) ⟨PLe.refl _, PLe.refl _, PLe.refl _, PLe.part rfl rfl rfl rfl, PLe.refl _, trivial⟩ hL) | exact (fun _ => rfl) | intro _ | apply And.intro | assumption | exact rfl | exact gd_t (by assumption) | exact gd_f (by assumption) | exact gd_a (by assumption) (by assumption) | exact gd_b (by assumption) (by assumption))) (ev_ret (ret1 (fz_p (PLe.refl _))))

set_option maxHeartbeats 2000000 in
set_option maxRecDepth 40000 in
theorem whole_high (hm : MayM p) (hlen : rs.length = K + 1) (k : Nat) (hk : k < 12) (hkK : k < K) (ih : WholeAt p K hlf rs k) (s : Nat) (vs kn : List Nat) (hl : vs.length + kn.length = 2 ^ (k + 1)) (h0 : vs.length ≠ 0) (hge : ¬ vs.length < 2 ^ k) :
    CallSpec Tryz.pr.P Tryz.pr.G 92 [planP p K rs hlf, u64s vs, u64s kn, partP (k + 1) s (sqK p k s)] (u64s (whol p (fun i => rs.getD i 0) hlf (minv p) (k + 1) s vs kn)) := by
  have e2 : 2 ^ (k + 1) = 2 ^ k * 2 := Nat.pow_succ 2 k
  have hN := pow_fit k hk
  have hh0 : 0 < 2 ^ k := Nat.pow_pos (by decide)
  have e1 : IntKind.wrap .i64 (((k + 1 : Nat) : Int) - 1) = (k : Int) := (wrapI _ (by omega) (by omega)).trans (by omega)
  have es : IntKind.wrap .i64 (1 * 2 ^ (min (IntKind.wrap .u64 (IntKind.wrap .i64 (((k + 1 : Nat) : Int) - 1))).toNat (IntKind.bits .i64))) = ((2 ^ k : Nat) : Int) := by rw [e1]; exact shl_pow k hk
  have ef : 0 ≤ IntKind.wrap .u64 (IntKind.wrap .i64 (((k + 1 : Nat) : Int) - 1)) := by rw [e1]; exact shl_fit k hk
  obtain ⟨r, hr⟩ : ∃ r : Nat → Nat, (fun i => rs.getD i 0) = r := ⟨_, rfl⟩
  have hrk : rs.getD (k + 1) 0 = r (k + 1) := by rw [← hr]
  have hW : whol p (fun i => rs.getD i 0) hlf (minv p) (k + 1) s vs kn =
      (let u := whol p r hlf (minv p) k s (vs.take (2 ^ k)) []
       let v := whol p r hlf (minv p) k (s * r (k + 1) % p) (vs.drop (2 ^ k)) (tabL (fun i => sb (u.getD (vs.length - 2 ^ k + i) 0) ((sqK p k s + sqK p k s) % p * kn.getD i 0 % p) p) kn.length)
       tabL (fun i => if i < 2 ^ k then hlf * ((u.getD i 0 + v.getD i 0) % p) % p else minv p (sqK p k s) * (hlf * sb (u.getD (i - 2 ^ k) 0) (v.getD (i - 2 ^ k) 0) p % p) % p) (2 * 2 ^ k)) := by
    rw [hr]
    show (if vs.length = 0 then kn else if vs.length < 2 ^ k then _ else _) = _
    rw [if_neg h0, if_neg hge]
  rw [hW]
  clear hW
  dsimp only
  have hFi := first_spec (K := K) (hlf := hlf) (rs := rs) hm k s (sqK p k s) (by omega)
  have hSe := second_spec (K := K) (hlf := hlf) (rs := rs) hm k s (sqK p k s) (by omega) (by omega)
  rw [hrk] at hSe
  unfold WholeAt at ih
  rw [hr] at ih
  obtain ⟨c, hc⟩ : ∃ c, sqK p k s = c := ⟨_, rfl⟩
  rw [hc] at hFi hSe ⊢
  obtain ⟨n, hn⟩ : ∃ n, vs.length = n := ⟨_, rfl⟩
  rw [hn] at hl h0 hge ⊢
  have htl : (vs.take (2 ^ k)).length = 2 ^ k := by rw [List.length_take]; omega
  have hu := ih s (vs.take (2 ^ k)) [] (by rw [htl]; rfl)
  have hul := whol_len (p := p) (r := r) (half := hlf) (iv := minv p) k s (vs.take (2 ^ k)) [] (by rw [htl]; rfl)
  generalize whol p r hlf (minv p) k s (vs.take (2 ^ k)) [] = u at *
  obtain ⟨f, hf⟩ : ∃ f : Nat → Nat, f = fun i => sb (u.getD (n - 2 ^ k + i) 0) ((c + c) % p * kn.getD i 0 % p) p := ⟨_, rfl⟩
  have hfi : ∀ i, sb (u.getD (n - 2 ^ k + i) 0) ((c + c) % p * kn.getD i 0 % p) p = f i := fun i => by rw [hf]
  rw [← hf]
  clear hf
  have hdl : (vs.drop (2 ^ k)).length = n - 2 ^ k := by rw [List.length_drop, hn]
  generalize s * r (k + 1) % p = s2 at *
  have hv := ih s2 (vs.drop (2 ^ k)) (tabL f kn.length) (by rw [hdl, len_tabL]; omega)
  have hvl := whol_len (p := p) (r := r) (half := hlf) (iv := minv p) k s2 (vs.drop (2 ^ k)) (tabL f kn.length) (by rw [hdl, len_tabL]; omega)
  generalize whol p r hlf (minv p) k s2 (vs.drop (2 ^ k)) (tabL f kn.length) = v at *
  generalize sqK p (k - 1) s = d1 at *
  generalize sqK p (k - 1) s2 = d2 at *
  have hI := Inv_spec (b := bk p) (t := tw p) hm c
  generalize (wrong c p : Nat) = wr at *
  generalize minv p c = iv at *
  obtain ⟨fa, hfa⟩ : ∃ f : Nat → Nat, f = fun i => hlf * ((u.getD i 0 + v.getD i 0) % p) % p := ⟨_, rfl⟩
  have hfai : ∀ i, hlf * ((u.getD i 0 + v.getD i 0) % p) % p = fa i := fun i => by rw [hfa]
  obtain ⟨fb, hfb⟩ : ∃ f : Nat → Nat, f = fun i => iv * (hlf * sb (u.getD i 0) (v.getD i 0) p % p) % p := ⟨_, rfl⟩
  have hfbi : ∀ i, iv * (hlf * sb (u.getD i 0) (v.getD i 0) p % p) % p = fb i := fun i => by rw [hfb]
  have hfin : pairK fa fb (2 ^ k) (2 ^ k) = tabL (fun i => if i < 2 ^ k then hlf * ((u.getD i 0 + v.getD i 0) % p) % p else iv * (hlf * sb (u.getD (i - 2 ^ k) 0) (v.getD (i - 2 ^ k) 0) p % p) % p) (2 * 2 ^ k) := by rw [pairK_full, hfa, hfb]
  rw [← hfin]
  clear hfa hfb hfin ih hr hrk
  generalize 2 ^ k = h at *
  have enh : IntKind.wrap .i64 ((n : Int) - (h : Int)) = ((n - h : Nat) : Int) := by rw [wrapI _ (by omega) (by omega)]; omega
  have eh2 : IntKind.wrap .i64 (2 * (h : Int)) = ((2 * h : Nat) : Int) := by rw [wrapI _ (by omega) (by omega)]; omega
  refine callSpec_of Tryz.pr Tryz.func92 rfl rfl rfl fun w0 ok0 hok hG => ?_
  refine ev_rs [] rfl (by repeat' (first | exact trivial | exact gd_t | exact gd_f | exact leb rfl | exact (fun _ => rfl) | intro _ | apply And.intro | assumption | exact rfl | exact gd_t (by assumption) | exact gd_f (by assumption) | exact gd_a (by assumption) (by assumption) | exact gd_b (by assumption) (by assumption))) ?_
  refine ev_rs [] rfl trivial ?_
  refine ev_seq (ev_block ?_)
  refine ev_rs [] rfl trivial (ev_cf (congrArg (fun z => AV.p (PV.val (.bool z))) (show ((vs.length : Int) == 0) = false from beq_eq_false_iff_ne.mpr (by omega))) ?_)
  refine ev_rs [] rfl (by repeat' (first | exact trivial | exact gd_t | exact gd_f | exact leb rfl | exact (fun _ => rfl) | intro _ | apply And.intro | assumption | exact rfl | exact gd_t (by assumption) | exact gd_f (by assumption) | exact gd_a (by assumption) (by assumption) | exact gd_b (by assumption) (by assumption))) (ev_cf (congrArg (fun z => AV.p (PV.val (.bool z))) (show (((k + 1 : Nat) : Int) == 0) = false from beq_eq_false_iff_ne.mpr (by omega))) (ev_skip ?_))
  refine ev_rs [] rfl (by repeat' (first | exact trivial | exact gd_t | exact gd_f | exact leb rfl | exact ef | exact (fun _ => rfl) | intro _ | apply And.intro | assumption | exact rfl | exact gd_t (by assumption) | exact gd_f (by assumption) | exact gd_a (by assumption) (by assumption) | exact gd_b (by assumption) (by assumption))) (ev_eq 10 (.p (i64 h)) (congrArg (fun z => AV.p (PV.val (.int .i64 z))) es) ?_)
  refine ev_seq (ev_rs [] rfl trivial (ev_cf (congrArg (fun z => AV.p (PV.val (.bool z))) (decide_eq_false (by omega) : decide ((vs.length : Int) < (h : Int)) = false)) (ev_sk ?_)))
  have a1 : (0 : Int) ≤ (h : Int) := by omega
  have a2 : (h : Int) ≤ (vs.length : Int) := by omega
  have a3 : h ≤ vs.length := by omega
  refine ev_ds [partP k s d1, u64s u] (by kernel_rfl) rfl rfl (by repeat' (first | exact trivial | exact gd_t | exact gd_f | exact leb rfl | exact .inl (callSpec_args (as' := [planP p K rs hlf, partP (k + 1) s c]) ⟨PLe.refl _, PLe.part rfl rfl rfl rfl, trivial⟩ hFi) | exact .inl (callSpec_args (as' := [planP p K rs hlf, u64s (vs.take h), u64s [], partP k s d1]) ⟨PLe.refl _, PLe.take a3, PLe.nil, PLe.refl _, trivial⟩ hu) | exact a1 | exact a2 | exact Int.le_refl _ | exact (fun _ => rfl) | intro _ | apply And.intro | assumption | exact rfl | exact gd_t (by assumption) | exact gd_f (by assumption) | exact gd_a (by assumption) (by assumption) | exact gd_b (by assumption) (by assumption))) ?_
  refine ev_rs [] rfl trivial (ev_nilown 12 912 rfl rfl ?_)
  refine ev_ds [u64 ((c + c) % p)] (by kernel_rfl) rfl rfl (by repeat' (first | exact trivial | exact gd_t | exact gd_f | exact leb rfl | exact .inl (Add_spec (b := bk p) (t := tw p) hm c c) | exact (fun _ => rfl) | intro _ | apply And.intro | assumption | exact rfl | exact gd_t (by assumption) | exact gd_f (by assumption) | exact gd_a (by assumption) (by assumption) | exact gd_b (by assumption) (by assumption))) ?_
  generalize (c + c) % p = c2 at *
  refine ev_at (α := Unit) (fun _ => True) (fun _ => [(0, .p (planP p K rs hlf)), (1, .p (u64s vs)), (7, .oat 907 0), (10, .p (i64 h)), (11, .p (u64s u)), (12, .p (u64s (tabL f kn.length)))]) (fun _ => [(907, partOb (k + 1) s c)]) ?_ ?_
  · refine ev_rs [] rfl trivial ?_
    refine ev_block (ev_while (α := Nat) (fun j => j ≤ kn.length) (fun j => [(0, .p (planP p K rs hlf)), (1, .p (u64s vs)), (7, .oat 907 0), (9, .p (i64 n)), (10, .p (i64 h)), (11, .p (u64s u)), (12, .own 912 0 j 1), (13, .p (u64 c2)), (64, .p (u64s kn)), (65, .p (i64 kn.length)), (66, .p (i64 j))])
      (fun j => [(907, partOb (k + 1) s c), (912, ob64 (tabL f j))]) (fun j => kn.length - j) 0 (Nat.zero_le _)
      (wk_l (ren2 907 7) (all2 rfl rfl) (fun hd => ⟨le_refl hd _, le_refl hd _, le_oat (ρ := ren2 907 7) (i := 907) rfl, le_n hd (congrArg (fun n : Nat => i64 n) hn), le_refl hd _, le_refl hd _, le_own (ρ := ren2 907 7) (i := 912) rfl, le_refl hd _, le_refl hd _, le_refl hd _, le_refl hd _, trivial⟩)
        (fun hd => ⟨⟨_, rfl, leb rfl, fun j _ => le_refl hd _⟩, ⟨_, rfl, Nat.le_refl _, fun j _ => le_refl hd _⟩, trivial⟩) rfl) ?_)
    rintro j h1
    refine ev_rs [] rfl trivial (ev_seq (ev_cond rfl (fun hq => ev_sk ?_) (fun hq => ev_exit ?_)))
    · have hj : j < kn.length := Int.ofNat_lt.mp (of_decide_eq_true hq)
      have ej : IntKind.wrap .i64 (IntKind.wrap .i64 ((n : Int) - (h : Int)) + (j : Int)) = ((n - h + j : Nat) : Int) := by rw [enh, wrapI _ (by omega) (by omega)]; omega
      have hM := Mul_spec (b := bk p) (t := tw p) hm c2 (kn.getD j 0)
      have hf1 := hfi j
      obtain ⟨x, hx⟩ : ∃ x, c2 * kn.getD j 0 % p = x := ⟨_, rfl⟩
      rw [hx] at hM hf1
      have hS := Sb_spec (b := bk p) (t := tw p) hm (u.getD (n - h + j) 0) x
      rw [hf1] at hS
      have hS' : CallSpec Tryz.pr.P Tryz.pr.G 47 [newF p, u64 (u.getD (IntKind.wrap .i64 (IntKind.wrap .i64 ((n : Int) - (h : Int)) + (j : Int))).toNat 0), u64 x] (u64 (f j)) := by rw [ej]; exact hS
      have d1 : (0 : Int) ≤ IntKind.wrap .i64 (IntKind.wrap .i64 ((n : Int) - (h : Int)) + (j : Int)) := by rw [ej]; omega
      have d2 : IntKind.wrap .i64 (IntKind.wrap .i64 ((n : Int) - (h : Int)) + (j : Int)) < (u.length : Int) := by rw [ej]; omega
      have d3 : (IntKind.wrap .i64 (IntKind.wrap .i64 ((n : Int) - (h : Int)) + (j : Int))).toNat < u.length := by rw [ej, Int.toNat_natCast]; omega
      have d4 : (0 : Int) ≤ (j : Int) := by omega
      have d5 : (j : Int) < (kn.length : Int) := by omega
      have d7 : j + 1 ≤ 1099511627776 := by omega
      have d8 : (tabL f j).length = j := len_tabL _ _
      refine ev_seq (ev_block ?_)
      refine ev_rs [] rfl (by repeat' (first | exact trivial | exact gd_t | exact gd_f | exact hj | exact d4 | exact d5 | exact (fun _ => rfl) | intro _ | apply And.intro | assumption | exact rfl | exact gd_t (by assumption) | exact gd_f (by assumption) | exact gd_a (by assumption) (by assumption) | exact gd_b (by assumption) (by assumption))) ?_
      refine ev_draw [u64 x, u64 (f j)] (by kernel_rfl) rfl rfl (by repeat' (first | exact trivial | exact gd_t | exact gd_f | exact leb rfl | exact .inl hM | exact .inl hS' | exact d1 | exact d2 | exact d3 | exact d7 | exact d8 | exact (fun _ => rfl) | intro _ | apply And.intro | assumption | exact rfl | exact gd_t (by assumption) | exact gd_f (by assumption) | exact gd_a (by assumption) (by assumption) | exact gd_b (by assumption) (by assumption))) ?_
      refine ev_app 12 93 (tabL f j) [f j] rfl rfl (show j + 1 = _ by rw [d8]; rfl) (show j + 1 = _ by rw [d8]; rfl) d8.symm (fun _ _ => rfl) (fun q hq => by match q, hq with | 0, _ => rfl) ?_
      have d9 : tabL f j ++ [f j] = tabL f (j + 1) := (tabL_snoc f j).symm
      refine ev_eq 12 (.own 93 0 (j + 1) 1) (congrArg (fun z => AV.own 93 0 z 1) (by rw [d9]; exact len_tabL _ _)) (ev_ob 93 (ob64 (tabL f (j + 1))) (congrArg (fun l => some (ob64 l)) d9) ?_)
      exact ev_region [] rfl trivial ⟨j + 1, hj, by dsimp only; omega, wk_l (ren2 912 93) (all2 rfl rfl) (fun hd => ⟨le_refl hd _, le_refl hd _, le_oat (ρ := ren2 912 93) (i := 907) rfl, le_refl hd _, le_refl hd _, le_refl hd _, le_own (ρ := ren2 912 93) (i := 912) rfl, le_refl hd _, le_refl hd _, le_refl hd _, le_n hd (congrArg (fun z => PV.val (.int .i64 z)) (wrapI _ (by omega) (by omega))), trivial⟩)
        (fun hd => ⟨⟨_, rfl, leb rfl, fun j _ => le_refl hd _⟩, ⟨_, rfl, Nat.le_refl _, fun j _ => le_refl hd _⟩, trivial⟩) rfl⟩
    · have hj : j = kn.length := by
        have := of_decide_eq_false hq
        omega
      subst hj
      exact at_l (fun i => i) () trivial (all1 rfl) (fun hd => ⟨le_refl hd _, le_refl hd _, le_a rfl, le_refl hd _, le_refl hd _, le_fzH hd rfl (len_tabL f kn.length).symm rfl (all1 (show (907 : Nat) ≠ 912 by decide)), trivial⟩)
        (fun hd => ⟨⟨_, rfl, leb rfl, fun j _ => le_refl hd _⟩, trivial⟩) rfl
  rintro ⟨⟩ -
  refine ev_ds [partP k s2 d2, u64s v] (by kernel_rfl) rfl rfl (by repeat' (first | exact trivial | exact gd_t | exact gd_f | exact leb rfl | exact .inl (callSpec_args (as' := [planP p K rs hlf, partP (k + 1) s c]) ⟨PLe.refl _, PLe.part rfl rfl rfl rfl, trivial⟩ hSe) | exact .inl (callSpec_args (as' := [planP p K rs hlf, u64s (vs.drop h), u64s (tabL f kn.length), partP k s2 d2]) ⟨PLe.refl _, PLe.dropS rfl, PLe.refl _, PLe.refl _, trivial⟩ hv) | exact a1 | exact a2 | exact Int.le_refl _ | exact (fun _ => rfl) | intro _ | apply And.intro | assumption | exact rfl | exact gd_t (by assumption) | exact gd_f (by assumption) | exact gd_a (by assumption) (by assumption) | exact gd_b (by assumption) (by assumption))) ?_
  refine ev_ds [.tup 2 (two (u64 iv) (i64 wr))] (by kernel_rfl) rfl rfl (by repeat' (first | exact trivial | exact gd_t | exact gd_f | exact leb rfl | exact .inl hI | exact (fun _ => rfl) | intro _ | apply And.intro | assumption | exact rfl | exact gd_t (by assumption) | exact gd_f (by assumption) | exact gd_a (by assumption) (by assumption) | exact gd_b (by assumption) (by assumption))) ?_
  have c1 : (0 : Int) ≤ IntKind.wrap .i64 (2 * (h : Int)) := by rw [eh2]; omega
  have c3 : IntKind.wrap .i64 (2 * (h : Int)) ≤ 1099511627776 := by rw [eh2]; omega
  refine ev_rs [] rfl (by repeat' (first | exact trivial | exact gd_t | exact gd_f | exact c1 | exact c3 | exact Int.le_refl _ | exact (fun _ => rfl) | intro _ | apply And.intro | assumption | exact rfl | exact gd_t (by assumption) | exact gd_f (by assumption) | exact gd_a (by assumption) (by assumption) | exact gd_b (by assumption) (by assumption))) ?_
  refine ev_made 19 116 (2 * h) rfl rfl (show (IntKind.wrap .i64 (2 * (h : Int))).toNat = _ by rw [eh2]; rfl) ?_
  refine ev_at (α := Unit) (fun _ => True) (fun _ => [(19, .p (u64s (pairK fa fb h h)))]) (fun _ => []) ?_ ?_
  · refine ev_rs [] rfl trivial ?_
    refine ev_block (ev_while (α := Nat) (fun i => i ≤ h) (fun i => [(0, .p (planP p K rs hlf)), (10, .p (i64 h)), (11, .p (u64s u)), (16, .p (u64s v)), (17, .p (u64 iv)), (19, .own 919 0 (2 * h) 1), (117, .p (i64 h)), (118, .p (i64 i))])
      (fun i => [(919, ob64 (pairK fa fb h i))]) (fun i => h - i) 0 (Nat.zero_le _)
      (wk_l (ren2 919 116) (all1 rfl) (fun hd => ⟨le_refl hd _, le_refl hd _, le_refl hd _, le_refl hd _, le_refl hd _, le_own (ρ := ren2 919 116) (i := 919) rfl, le_refl hd _, le_refl hd _, trivial⟩)
        (fun hd => ⟨⟨_, rfl, (by show (pairK fa fb h 0).length ≤ (List.replicate (2 * h) 0).length; rw [pairK_zero]; exact Nat.le_refl _), fun j _ => by show Le _ _ _ _ (.p (u64 ((List.replicate (2 * h) 0).getD j 0))) (.p (u64 ((pairK fa fb h 0).getD j 0))); rw [pairK_zero]; exact le_refl hd _⟩, trivial⟩) rfl) ?_)
    rintro i h1
    refine ev_rs [] rfl trivial (ev_seq (ev_cond rfl (fun hq => ev_sk ?_) (fun hq => ev_exit ?_)))
    · have hil : i < h := Int.ofNat_lt.mp (of_decide_eq_true hq)
      have hpl := pairK_len fa fb h i
      have ehi : IntKind.wrap .i64 ((h : Int) + (i : Int)) = ((h + i : Nat) : Int) := by rw [wrapI _ (by omega) (by omega)]; omega
      have hA := Add_spec (b := bk p) (t := tw p) hm (u.getD i 0) (v.getD i 0)
      have hS := Sb_spec (b := bk p) (t := tw p) hm (u.getD i 0) (v.getD i 0)
      have hf1 := hfai i
      have hf2 := hfbi i
      obtain ⟨x, hx⟩ : ∃ x, (u.getD i 0 + v.getD i 0) % p = x := ⟨_, rfl⟩
      rw [hx] at hA hf1
      obtain ⟨y, hy⟩ : ∃ y, sb (u.getD i 0) (v.getD i 0) p = y := ⟨_, rfl⟩
      rw [hy] at hS hf2
      have hM1 := Mul_spec (b := bk p) (t := tw p) hm hlf x
      rw [hf1] at hM1
      have hM2 := Mul_spec (b := bk p) (t := tw p) hm hlf y
      obtain ⟨z, hz⟩ : ∃ z, hlf * y % p = z := ⟨_, rfl⟩
      rw [hz] at hM2 hf2
      have hM3 := Mul_spec (b := bk p) (t := tw p) hm iv z
      rw [hf2] at hM3
      have d1 : (0 : Int) ≤ (i : Int) := by omega
      have d2 : (i : Int) < (u.length : Int) := by omega
      have d3 : i < u.length := by omega
      have d4 : (i : Int) < (v.length : Int) := by omega
      have d5 : i < v.length := by omega
      have d6 : (i : Int) < ((2 * h : Nat) : Int) := by omega
      have d7 : i + 1 ≤ (pairK fa fb h i).length := by omega
      have d8 : (0 : Int) ≤ IntKind.wrap .i64 ((h : Int) + (i : Int)) := by rw [ehi]; omega
      have d9 : IntKind.wrap .i64 ((h : Int) + (i : Int)) < ((2 * h : Nat) : Int) := by rw [ehi]; omega
      have d10 : (IntKind.wrap .i64 ((h : Int) + (i : Int))).toNat + 1 ≤ ((pairK fa fb h i).set i (fa i)).length := by rw [List.length_set, ehi, Int.toNat_natCast]; omega
      refine ev_seq (ev_block ?_)
      refine ev_rs [] rfl trivial ?_
      refine ev_ds [u64 x, u64 (fa i)] (by kernel_rfl) rfl rfl (by repeat' (first | exact trivial | exact gd_t | exact gd_f | exact leb rfl | exact .inl hA | exact .inl hM1 | exact d1 | exact d2 | exact d3 | exact d4 | exact d5 | exact d6 | exact d7 | exact (fun _ => rfl) | intro _ | apply And.intro | assumption | exact rfl | exact gd_t (by assumption) | exact gd_f (by assumption) | exact gd_a (by assumption) (by assumption) | exact gd_b (by assumption) (by assumption))) ?_
      refine ev_set 919 i (fa i) rfl rfl rfl (by omega) ?_
      refine ev_draw [u64 y, u64 z, u64 (fb i)] (by kernel_rfl) rfl rfl (by repeat' (first | exact trivial | exact gd_t | exact gd_f | exact leb rfl | exact .inl hS | exact .inl hM2 | exact .inl hM3 | exact d1 | exact d2 | exact d3 | exact d4 | exact d5 | exact d8 | exact d9 | exact d10 | exact (fun _ => rfl) | intro _ | apply And.intro | assumption | exact rfl | exact gd_t (by assumption) | exact gd_f (by assumption) | exact gd_a (by assumption) (by assumption) | exact gd_b (by assumption) (by assumption))) ?_
      refine ev_set 919 (h + i) (fb i) rfl (by show (IntKind.wrap .i64 ((h : Int) + (i : Int))).toNat = _; rw [ehi]; rfl) rfl (by rw [List.length_set]; omega) ?_
      exact ev_region [] rfl trivial ⟨i + 1, hil, by dsimp only; omega, wk_l (fun i => i) (all1 rfl) (fun hd => ⟨le_refl hd _, le_refl hd _, le_refl hd _, le_refl hd _, le_refl hd _, le_o rfl, le_refl hd _, le_n hd (congrArg (fun z => PV.val (.int .i64 z)) (wrapI _ (by omega) (by omega))), trivial⟩)
        (fun hd => ⟨⟨_, congrArg (fun l => some (ob64 l)) (pairK_set fa fb h i hil), Nat.le_refl _, fun j _ => le_refl hd _⟩, trivial⟩) rfl⟩
    · have hil : i = h := by
        have := of_decide_eq_false hq
        omega
      subst hil
      exact at0 () trivial ⟨le_fz' rfl (pairK_len fa fb i i).symm rfl, trivial⟩
  rintro ⟨⟩ -
  exact ev_rs [] rfl trivial (ev_ret (ret1 (fz_p (PLe.refl _))))

theorem whole_spec (hm : MayM p) (hlen : rs.length = K + 1) (hK : K < 12) : ∀ k, k ≤ K → WholeAt p K hlf rs k := by
  intro k
  induction k with
  | zero =>
    intro _ s vs kn hl
    have e : whol p (fun i => rs.getD i 0) hlf (minv p) 0 s vs kn = if vs.length = 0 then kn else vs := rfl
    rw [e]
    by_cases h0 : vs.length = 0
    · obtain rfl : vs = [] := List.length_eq_zero_iff.mp h0
      exact whole_none kn 0 s _
    · rw [if_neg h0]
      exact whole_one vs kn h0 s _
  | succ k ih =>
    intro hk s vs kn hl
    rw [show k + 1 - 1 = k from rfl]
    by_cases h0 : vs.length = 0
    · obtain rfl : vs = [] := List.length_eq_zero_iff.mp h0
      exact whole_none kn (k + 1) s _
    · by_cases hlt : vs.length < 2 ^ k
      · exact whole_low k (by omega) s _ vs kn _ h0 hlt (low_spec hm k (by omega) (ih (by omega)) s vs kn hl h0 hlt)
      · exact whole_high hm hlen k (by omega) (by omega) (ih (by omega)) s vs kn hl h0 hlt
end

end Go.Proofs

/- Transforms at some points, walked: products. -/
set_option linter.unusedVariables false
namespace Go.Proofs
open Go Vinc Vinc.Num

theorem pad_take {p N : Nat} (l : List Nat) (hl : l.length ≤ N) (hlt : ∀ j, l.getD j 0 < p) : (padN p N l).take l.length = l := by
  refine list_ext (n := l.length) (by rw [List.length_take, show (padN p N l).length = N from len_tabL _ _]; omega) rfl fun j hj => ?_
  rw [List.getD_eq_getElem?_getD, List.getElem?_take_of_lt hj, ← List.getD_eq_getElem?_getD]
  unfold padN
  rw [getD_tabL, if_pos (by omega), Nat.mod_eq_of_lt (hlt j)]

/-- Words, written over one by one. -/
def mixK (f : Nat → Nat) (xs : List Nat) : Nat → List Nat
  | 0 => xs
  | i + 1 => (mixK f xs i).set i (f i)

theorem mixK_len (f : Nat → Nat) (xs : List Nat) : ∀ i, (mixK f xs i).length = xs.length
  | 0 => rfl
  | i + 1 => by
    unfold mixK
    rw [List.length_set, mixK_len f xs i]

theorem mixK_at (f : Nat → Nat) (xs : List Nat) : ∀ i, i ≤ xs.length → ∀ j, (mixK f xs i).getD j 0 = if j < i then f j else xs.getD j 0
  | 0, _, j => rfl
  | i + 1, hi, j => by
    unfold mixK
    rw [getD_set _ _ _ _ (by rw [mixK_len]; omega), mixK_at f xs i (by omega) j]
    by_cases h : j = i
    · rw [if_pos h, if_pos (by omega), h]
    · rw [if_neg h]
      by_cases h2 : j < i
      · rw [if_pos h2, if_pos (by omega)]
      · rw [if_neg h2, if_neg (by omega)]

theorem mixK_full (f : Nat → Nat) (xs : List Nat) : mixK f xs xs.length = tabL f xs.length := by
  refine list_ext (n := xs.length) (mixK_len f xs _) (len_tabL _ _) fun j hj => ?_
  rw [mixK_at f xs _ (Nat.le_refl _), getD_tabL, if_pos hj, if_pos hj]

section
variable {p K hlf : Nat} {rs : List Nat}

set_option maxRecDepth 40000 in
theorem Back_spec (hm : MayM p) (hlen : rs.length = K + 1) (hK : K < 12) (l : List Nat) (hl : l.length ≤ 2 ^ K) (hlt : ∀ j, l.getD j 0 < p) :
    CallSpec Tryz.pr.P Tryz.pr.G 80 [planP p K rs hlf, u64s l] (.tup 2 (two (u64s ((whol p (fun i => rs.getD i 0) hlf (minv p) K 1 l (List.replicate (2 ^ K - l.length) 0)).take l.length)) (i64 0))) := by
  have hMo := Most_spec (p := p) (hlf := hlf) (rs := rs) hK
  have hP := padded_spec (hlf := hlf) (rs := rs) hm hK l hl
  have hO := tftOf_spec (K := K) (hlf := hlf) (rs := rs) hm K 1 (by omega)
  have hpl : (padN p (2 ^ K) l).length = 2 ^ K := len_tabL _ _
  have hpt := pad_take l hl hlt
  have hN := pow_fit K hK
  have hW := whole_spec (hlf := hlf) hm hlen hK K (Nat.le_refl _) 1 l (List.replicate (2 ^ K - l.length) 0) (by rw [List.length_replicate]; omega)
  have hwl := whol_len (p := p) (r := fun i => rs.getD i 0) (half := hlf) (iv := minv p) K 1 l (List.replicate (2 ^ K - l.length) 0) (by rw [List.length_replicate]; omega)
  generalize whol p (fun i => rs.getD i 0) hlf (minv p) K 1 l (List.replicate (2 ^ K - l.length) 0) = o at *
  generalize padN p (2 ^ K) l = pd at *
  generalize sqK p (K - 1) 1 = d at *
  generalize 2 ^ K = N at *
  have en : IntKind.wrap .i64 ((N : Int) - (l.length : Int)) = ((N - l.length : Nat) : Int) := by rw [wrapI _ (by omega) (by omega)]; omega
  refine callSpec_of Tryz.pr Tryz.func80 rfl rfl rfl fun w0 ok0 hok hG => ?_
  refine ev_rs [] rfl trivial ?_
  refine ev_seq (ev_block ?_)
  refine ev_rs [] rfl trivial (ev_cf rfl ?_)
  refine ev_rs [i64 N] rfl (by repeat' (first | exact trivial | exact gd_t | exact gd_f | exact .inl hMo | exact (fun _ => rfl) | intro _ | apply And.intro | assumption | exact rfl | exact gd_t (by assumption) | exact gd_f (by assumption) | exact gd_a (by assumption) (by assumption) | exact gd_b (by assumption) (by assumption))) (ev_cf (congrArg (fun z => AV.p (PV.val (.bool z))) (decide_eq_false (by omega) : decide ((l.length : Int) > (N : Int)) = false)) (ev_skip ?_))
  refine ev_rs [] rfl trivial ?_
  have a1 : (0 : Int) ≤ (l.length : Int) := by omega
  have a2 : (l.length : Int) ≤ (pd.length : Int) := by omega
  have a3 : l.length ≤ pd.length := by omega
  have a4 : (0 : Int) ≤ IntKind.wrap .i64 ((N : Int) - (l.length : Int)) := by rw [en]; omega
  have a5 : IntKind.wrap .i64 ((N : Int) - (l.length : Int)) ≤ 1099511627776 := by rw [en]; omega
  have a6 : (IntKind.wrap .i64 ((N : Int) - (l.length : Int))).toNat = (List.replicate (N - l.length) 0).length := by rw [en, List.length_replicate]; rfl
  have a7 : (l.length : Int) ≤ (o.length : Int) := by omega
  have a8 : l.length ≤ o.length := by omega
  have hle : PLe (.sl l.length 1 (fun j => u64 (pd.getD j 0))) (u64s l) := (PLe.take a3).trans (PLe.of_eq (congrArg u64s hpt))
  refine ev_ds [u64s pd, i64 N, partP K 1 d, u64s o] (by kernel_rfl) rfl rfl (by repeat' (first | exact trivial | exact gd_t | exact gd_f | exact leb rfl | exact .inl hP | exact .inl hMo | exact .inl hO | exact .inl (callSpec_args (as' := [planP p K rs hlf, u64s l, u64s (List.replicate (N - l.length) 0), partP K 1 d]) ⟨PLe.refl _, hle, PLe.lit a6 (fun j _ => by rw [getD_rep]; rfl), PLe.refl _, trivial⟩ hW) | exact a1 | exact a2 | exact a4 | exact a5 | exact Int.le_refl _ | exact Nat.le_of_eq (Nat.zero_add _) | exact (fun _ => rfl) | intro _ | apply And.intro | assumption | exact rfl | exact gd_t (by assumption) | exact gd_f (by assumption) | exact gd_a (by assumption) (by assumption) | exact gd_b (by assumption) (by assumption))) ?_
  refine ev_rs [] rfl (by repeat' (first | exact trivial | exact gd_t | exact gd_f | exact a1 | exact a7 | exact Int.le_refl _ | exact (fun _ => rfl) | intro _ | apply And.intro | assumption | exact rfl | exact gd_t (by assumption) | exact gd_f (by assumption) | exact gd_a (by assumption) (by assumption) | exact gd_b (by assumption) (by assumption))) (ev_ret (ret2 (fz_p (PLe.take a8)) (fz_p (PLe.refl _))))

set_option maxRecDepth 40000 in
theorem tftMul_spec (hm : MayM p) (hlen : rs.length = K + 1) (hK : K < 12) (a b : List Nat) (ha : 0 < a.length) (hb : 0 < b.length) (hn : a.length + b.length - 1 ≤ 2 ^ K) :
    CallSpec Tryz.pr.P Tryz.pr.G 69 [planP p K rs hlf, u64s a, u64s b] (.tup 2 (two (u64s (mulT p (fun i => rs.getD i 0) hlf (minv p) K a b)) (i64 0))) := by
  have hp0 : 0 < p := by have := hm.1; omega
  have hN := pow_fit K hK
  have hMo := Most_spec (p := p) (hlf := hlf) (rs := rs) hK
  obtain ⟨n, hnn⟩ : ∃ n, a.length + b.length - 1 = n := ⟨_, rfl⟩
  rw [hnn] at hn
  have hG1 := Go_own (hlf := hlf) hm hlen hK a n (by omega) hn
  have hG2 := Go_spec (hlf := hlf) hm hlen hK b n (by omega) hn
  have hval := vals_len p (fun i => rs.getD i 0) K 1 (padN p (2 ^ K) a) n (len_tabL _ _) hn
  have hvbl := vals_len p (fun i => rs.getD i 0) K 1 (padN p (2 ^ K) b) n (len_tabL _ _) hn
  have hpv : prodV p (fun i => rs.getD i 0) K a b n = tabL (fun i => (vals p (fun i => rs.getD i 0) K 1 (padN p (2 ^ K) a) n).getD i 0 * (vals p (fun i => rs.getD i 0) K 1 (padN p (2 ^ K) b) n).getD i 0 % p) n := rfl
  have hpl : (prodV p (fun i => rs.getD i 0) K a b n).length = n := len_tabL _ _
  have hB := Back_spec (hlf := hlf) hm hlen hK (prodV p (fun i => rs.getD i 0) K a b n) (by rw [hpl]; exact hn) (fun j => by
    rw [hpv, getD_tabL]
    split
    · exact Nat.mod_lt _ hp0
    · exact hp0)
  unfold mulT
  rw [hnn]
  rw [hpl] at hB
  generalize prodV p (fun i => rs.getD i 0) K a b n = x at *
  generalize vals p (fun i => rs.getD i 0) K 1 (padN p (2 ^ K) a) n = va at *
  generalize vals p (fun i => rs.getD i 0) K 1 (padN p (2 ^ K) b) n = vb at *
  generalize List.take n (whol p (fun i => rs.getD i 0) hlf (minv p) K 1 x (List.replicate (2 ^ K - n) 0)) = o at *
  generalize 2 ^ K = N at *
  obtain ⟨f, hf⟩ : ∃ f : Nat → Nat, f = fun i => va.getD i 0 * vb.getD i 0 % p := ⟨_, rfl⟩
  have hfi : ∀ i, va.getD i 0 * vb.getD i 0 % p = f i := fun i => by rw [hf]
  have hxf : mixK f va n = x := by rw [hpv, ← hf, ← hval]; exact mixK_full f va
  clear hf hpv
  have en : IntKind.wrap .i64 (IntKind.wrap .i64 ((a.length : Int) + (b.length : Int)) - 1) = (n : Int) := by
    rw [wrapI ((a.length : Int) + (b.length : Int)) (by omega) (by omega), wrapI _ (by omega) (by omega)]; omega
  have hc1 : (bif ((a.length : Int) == 0) then true else ((b.length : Int) == 0)) = false := by
    rw [beq_eq_false_iff_ne.mpr (by omega : (a.length : Int) ≠ 0), beq_eq_false_iff_ne.mpr (by omega : (b.length : Int) ≠ 0)]; rfl
  refine callSpec_of Tryz.pr Tryz.func69 rfl rfl rfl fun w0 ok0 hok hG => ?_
  refine ev_rs [] rfl trivial ?_
  refine ev_seq (ev_block ?_)
  refine ev_rs [] rfl trivial (ev_cf rfl ?_)
  refine ev_rs [] rfl (by repeat' (first | exact trivial | exact gd_t | exact gd_f | exact (fun _ => rfl) | intro _ | apply And.intro | assumption | exact rfl | exact gd_t (by assumption) | exact gd_f (by assumption) | exact gd_a (by assumption) (by assumption) | exact gd_b (by assumption) (by assumption))) (ev_cf (congrArg (fun z => AV.p (PV.val (.bool z))) hc1) (ev_skip ?_))
  refine ev_rs [] rfl trivial (ev_eq 8 (.p (i64 n)) (congrArg (fun z => AV.p (PV.val (.int .i64 z))) en) ?_)
  refine ev_seq (ev_rs [i64 N] rfl (by repeat' (first | exact trivial | exact gd_t | exact gd_f | exact .inl hMo | exact (fun _ => rfl) | intro _ | apply And.intro | assumption | exact rfl | exact gd_t (by assumption) | exact gd_f (by assumption) | exact gd_a (by assumption) (by assumption) | exact gd_b (by assumption) (by assumption))) (ev_cf (congrArg (fun z => AV.p (PV.val (.bool z))) (decide_eq_false (by omega) : decide ((n : Int) > (N : Int)) = false)) (ev_sk ?_)))
  refine ev_rg [.x ⟨[.p (planP p K rs hlf), .p (u64s a), .p (i64 n)], [], [(900, ob64 va)], .tp 2 (twoA (.own 900 0 n 1) (.p (i64 0)))⟩] rfl ⟨⟨rfl, trivial, hG1⟩, trivial⟩ ?_
  refine ev_seq (ev_rs [] rfl trivial (ev_cf rfl (ev_sk ?_)))
  refine ev_rs [.tup 2 (two (u64s vb) (i64 0))] rfl (by repeat' (first | exact trivial | exact gd_t | exact gd_f | exact .inl hG2 | exact (fun _ => rfl) | intro _ | apply And.intro | assumption | exact rfl | exact gd_t (by assumption) | exact gd_f (by assumption) | exact gd_a (by assumption) (by assumption) | exact gd_b (by assumption) (by assumption))) ?_
  refine ev_seq (ev_rs [] rfl trivial (ev_cf rfl (ev_sk ?_)))
  refine ev_at (α := Unit) (fun _ => True) (fun _ => [(0, .p (planP p K rs hlf)), (9, .p (u64s x))]) (fun _ => []) ?_ ?_
  · refine ev_rs [] rfl trivial ?_
    refine ev_block (ev_while (α := Nat) (fun i => i ≤ n) (fun i => [(0, .p (planP p K rs hlf)), (9, .own 900 0 n 1), (11, .p (u64s vb)), (56, .p (i64 n)), (57, .p (i64 i))])
      (fun i => [(900, ob64 (mixK f va i))]) (fun i => n - i) 0 (Nat.zero_le _)
      (wk_ob rfl (fun hd => ⟨le_refl hd _, le_o rfl, le_refl hd _, le_refl hd _, le_refl hd _, trivial⟩)) ?_)
    rintro i h1
    refine ev_rs [] rfl trivial (ev_seq (ev_cond rfl (fun hq => ev_sk ?_) (fun hq => ev_exit ?_)))
    · have hi : i < n := Int.ofNat_lt.mp (of_decide_eq_true hq)
      have hml := mixK_len f va i
      have hg : (mixK f va i).getD i 0 = va.getD i 0 := by rw [mixK_at f va i (by omega), if_neg (Nat.lt_irrefl i)]
      have hM : CallSpec Tryz.pr.P Tryz.pr.G 42 [newF p, u64 ((mixK f va i).getD i 0), u64 (vb.getD i 0)] (u64 (f i)) := by
        rw [hg, ← hfi]
        exact Mul_spec (b := bk p) (t := tw p) hm _ _
      have d1 : (0 : Int) ≤ (i : Int) := by omega
      have d2 : (i : Int) < (n : Int) := by omega
      have d3 : i < (mixK f va i).length := by omega
      have d4 : (i : Int) < (vb.length : Int) := by omega
      have d5 : i < vb.length := by omega
      refine ev_seq (ev_block ?_)
      refine ev_rs [] rfl trivial ?_
      refine ev_draw [u64 (f i)] (by kernel_rfl) rfl rfl (by repeat' (first | exact trivial | exact gd_t | exact gd_f | exact leb rfl | exact .inl hM | exact d1 | exact d2 | exact d3 | exact d4 | exact d5 | exact (fun _ => rfl) | intro _ | apply And.intro | assumption | exact rfl | exact gd_t (by assumption) | exact gd_f (by assumption) | exact gd_a (by assumption) (by assumption) | exact gd_b (by assumption) (by assumption))) ?_
      refine ev_set 900 i (f i) rfl rfl rfl d3 ?_
      exact ev_region [] rfl trivial ⟨i + 1, hi, by dsimp only; omega, wk_ob rfl (fun hd => ⟨le_refl hd _, le_o rfl, le_refl hd _, le_refl hd _, le_n hd (congrArg (fun z => PV.val (.int .i64 z)) (wrapI _ (by omega) (by omega))), trivial⟩)⟩
    · have hi : i = n := by
        have := of_decide_eq_false hq
        omega
      subst hi
      exact at0 () trivial ⟨le_refl ren_nil _, le_fz' rfl ((mixK_len f va i).trans hval).symm hxf, trivial⟩
  rintro ⟨⟩ -
  exact ev_rs [.tup 2 (two (u64s o) (i64 0))] rfl ⟨.inl hB, trivial⟩ (ev_ret (ret2 (fz_p (PLe.refl _)) (fz_p (PLe.refl _))))
end

end Go.Proofs

/- The search for primes and roots, walked. -/
set_option linter.unusedVariables false
namespace Go.Proofs
open Go Vinc Vinc.Num

theorem bLen_spec (x : Nat) (hx : x < 18446744073709551616) : CallSpec Tryz.pr.P Tryz.pr.G 75 [u64 x] (i64 (len64 x)) := by
  refine callSpec_of Tryz.pr Tryz.func75 rfl rfl rfl fun w0 ok0 hok hG => ?_
  refine ev_rs [] rfl trivial ?_
  refine ev_seq (ev_cf rfl (ev_sk ?_))
  exact ev_rs [i64 (len64 x)] rfl ⟨.inl (Len64_spec x hx), trivial⟩ (ev_ret (ret1 (fz_p (PLe.refl _))))

theorem pField_ok {p : Nat} (hm : MayM p) (hb : isB p = true) : CallSpec Tryz.pr.P Tryz.pr.G 101 [u64 p] (.tup 2 (two (newF p) (i64 0))) := by
  have hm2 := hm.2
  refine callSpec_of Tryz.pr Tryz.func101 rfl rfl rfl fun w0 ok0 hok hG => ?_
  refine ev_rs [] rfl trivial ?_
  refine ev_seq (ev_rs [Vinc.bool (isB p)] rfl (by repeat' (first | exact trivial | exact gd_t | exact gd_f | exact .inl (Is_spec p (by omega)) | exact (fun _ => rfl) | intro _ | apply And.intro | assumption | exact rfl | exact gd_t (by assumption) | exact gd_f (by assumption) | exact gd_a (by assumption) (by assumption) | exact gd_b (by assumption) (by assumption))) (ev_cond rfl (fun h => ?_) (fun _ => ev_sk ?_)))
  · exfalso
    rw [hb, decide_eq_false (by omega)] at h
    cases h
  exact ev_rs [.tup 2 (two (newF p) (i64 0))] rfl ⟨.inl (New_spec hm), trivial⟩ (ev_ret (ret2 (fz_p (PLe.refl _)) (fz_p (PLe.refl _))))

def ordP : Option Nat → PV
  | some n => .tup 2 (two (i64 n) (Vinc.bool true))
  | none => .tup 2 (two (i64 0) (Vinc.bool false))

theorem order_spec {p : Nat} (hm : MayM p) (x : Nat) : CallSpec Tryz.pr.P Tryz.pr.G 103 [newF p, u64 x] (ordP (ordF p 63 0 x)) := by
  obtain ⟨R, hR⟩ : ∃ R, ordF p 63 0 x = R := ⟨_, rfl⟩
  rw [hR]
  refine callSpec_of Tryz.pr Tryz.func103 rfl rfl rfl fun w0 ok0 hok hG => ?_
  refine ev_rs [] rfl trivial ?_
  refine ev_at (α := Unit) (fun _ => R = none) (fun _ => []) (fun _ => []) ?_ ?_
  · refine ev_rs [] rfl trivial ?_
    refine ev_block (ev_while0 (α := Nat × Nat) (fun q => q.1 ≤ 63 ∧ ordF p (63 - q.1) q.1 q.2 = R) (fun q => [(0, .p (newF p)), (1, .p (u64 q.2)), (7, .p (i64 q.1))]) (fun q => 63 - q.1) (0, x)
      ⟨Nat.zero_le _, hR⟩ ⟨le_0, le_0, le_0, trivial⟩ ?_)
    rintro ⟨k, y⟩ ⟨h1, h2⟩
    dsimp only at h1 h2
    refine ev_rs [] rfl trivial (ev_seq (ev_cond rfl (fun h => ev_sk ?_) (fun h => ev_exit ?_)))
    · have hk : k < 63 := Int.ofNat_lt.mp (of_decide_eq_true h)
      obtain ⟨f, hf⟩ : ∃ f, 63 - k = f + 1 := ⟨63 - k - 1, by omega⟩
      rw [hf, show ordF p (f + 1) k y = bif Nat.beq y 1 then some k else ordF p f (k + 1) (y * y % p) from rfl] at h2
      refine ev_seq (ev_block ?_)
      refine ev_rs [] rfl trivial ?_
      refine ev_seq (ev_rs [] rfl trivial (ev_cond rfl (fun h => ?_) (fun h => ev_sk ?_)))
      · have hy : y = 1 := Int.ofNat_inj.mp (beq_iff_eq.mp h)
        rw [hy] at h2
        have h2 : some k = R := h2
        rw [← h2]
        exact ev_rs [] rfl trivial (ev_ret (ret2 (fz_p (PLe.refl _)) (fz_p (PLe.refl _))))
      · have hy : Nat.beq y 1 = false := by
          cases hb : Nat.beq y 1
          · rfl
          · exact absurd (Int.ofNat_inj.mpr (Nat.eq_of_beq_eq_true hb)) (beq_eq_false_iff_ne.mp h)
        rw [hy] at h2
        refine ev_region [u64 (y * y % p)] rfl ⟨.inl (Mul_spec hm y y), trivial⟩ ?_
        exact ev_region [] rfl trivial (round0 (k + 1, y * y % p) ⟨hk, by dsimp only; rw [show 63 - (k + 1) = f by omega]; exact h2⟩ (by dsimp only; omega) ⟨le_0, le_0, le_e (congrArg (fun z => PV.val (.int .i64 z)) (wrapI _ (by dsimp only; omega) (by dsimp only; omega))), trivial⟩)
    · have hk : k = 63 := by
        have := of_decide_eq_false h
        dsimp only at this
        omega
      rw [hk] at h2
      exact at0 () h2.symm trivial
  rintro ⟨⟩ hn
  rw [hn]
  exact ev_rs [] rfl trivial (ev_ret (ret2 (fz_p (PLe.refl _)) (fz_p (PLe.refl _))))

theorem shlU : ∀ K : Nat, K < 12 → IntKind.wrap .u64 (1 * 2 ^ (min (IntKind.wrap .u64 (K : Int)).toNat (IntKind.bits .u64))) = ((2 ^ K : Nat) : Int) := by decide
theorem maskU : ∀ K : Nat, K < 12 → IntKind.wrap .u64 (((2 ^ K : Nat) : Int) - 1) = ((2 ^ K - 1 : Nat) : Int) := by decide

set_option maxRecDepth 40000 in
theorem Root_spec {p K : Nat} (hm : MayM p) (hb : isB p = true) (hK : K < 12) (hpk : (p - 1) % 2 ^ K = 0) {f w : Nat} (hf : f ≤ 100) (hr : rootF p K f 1 = some w) : CallSpec Tryz.pr.P Tryz.pr.G 88 [u64 p, i64 K] (.tup 2 (two (u64 w) (i64 0))) := by
  have hm1 := hm.1
  have hm2 := hm.2
  have ep : IntKind.wrap .u64 ((p : Int) - 1) = ((p - 1 : Nat) : Int) := wrapSub p 1 (by omega) (by omega)
  have ek : IntKind.wrap .u64 (K : Int) = (K : Int) := by rw [wrapN, Nat.mod_eq_of_lt (by omega)]
  have em : bitI .and .u64 (IntKind.wrap .u64 ((p : Int) - 1)) (IntKind.wrap .u64 (IntKind.wrap .u64 (1 * 2 ^ (min (IntKind.wrap .u64 (K : Int)).toNat (IntKind.bits .u64))) - 1)) = 0 := by
    rw [ep, shlU K hK, maskU K hK, and_mask (p - 1) K (by omega), hpk]; rfl
  have hcond : (bif bif decide ((K : Int) < 0) then true else decide ((K : Int) > 62) then true else bitI .and .u64 (IntKind.wrap .u64 ((p : Int) - 1)) (IntKind.wrap .u64 (IntKind.wrap .u64 (1 * 2 ^ (min (IntKind.wrap .u64 (K : Int)).toNat (IntKind.bits .u64))) - 1)) != 0) = false := by
    rw [em, decide_eq_false (by omega), decide_eq_false (by omega)]; rfl
  have efit := shl_fit K hK
  refine callSpec_of Tryz.pr Tryz.func88 rfl rfl rfl fun w0 ok0 hok hG => ?_
  refine ev_rs [] rfl trivial ?_
  refine ev_scope ?_
  refine ev_rs [.tup 2 (two (newF p) (i64 0))] rfl ⟨.inl (pField_ok hm hb), trivial⟩ ?_
  refine ev_seq (ev_block ?_)
  refine ev_rs [] rfl trivial (ev_cf rfl ?_)
  refine ev_rs [] rfl (by repeat' (first | exact trivial | exact gd_t | exact gd_f | exact fun _ => efit | exact (fun _ => rfl) | intro _ | apply And.intro | assumption | exact rfl | exact gd_t (by assumption) | exact gd_f (by assumption) | exact gd_a (by assumption) (by assumption) | exact gd_b (by assumption) (by assumption))) (ev_cf (congrArg (fun z => AV.p (PV.val (.bool z))) hcond) (ev_skip ?_))
  refine ev_seq (ev_label ?_)
  refine ev_rs [] rfl trivial ?_
  have e3 : (IntKind.wrap .u64 ((p : Int) - 1)).fdiv (2 ^ (min (IntKind.wrap .u64 (K : Int)).toNat (IntKind.bits .u64))) = (((p - 1) / 2 ^ K : Nat) : Int) := by rw [ep, ek]; exact shrN (p - 1) K (by omega)
  have he : (p - 1) / 2 ^ K < 18446744073709551616 := by have := Nat.div_le_self (p - 1) (2 ^ K); omega
  refine ev_block (ev_while0 (α := Nat × Nat) (fun q => rootF p K q.1 q.2 = some w ∧ q.2 + q.1 ≤ 101) (fun q => [(0, .p (u64 p)), (1, .p (i64 K)), (6, .p (newF p)), (8, .p (u64 q.2))]) (fun q => q.1) (f, 1)
    ⟨hr, by dsimp only; omega⟩ ⟨le_0, le_0, le_0, le_0, trivial⟩ ?_)
  rintro ⟨f, x⟩ ⟨h1, h2⟩
  dsimp only at h1 h2
  cases f with
  | zero => cases h1
  | succ f =>
    have hP := Pow_spec (b := bk p) (t := tw p) hm x ((p - 1) / 2 ^ K) he
    have hO := order_spec hm (x ^ ((p - 1) / 2 ^ K) % p)
    have hun : rootF p K (f + 1) x = match ordF p 63 0 (x ^ ((p - 1) / 2 ^ K) % p) with
      | some n => bif Nat.beq n K then some (x ^ ((p - 1) / 2 ^ K) % p) else rootF p K f (x + 1)
      | none => rootF p K f (x + 1) := rfl
    rw [hun] at h1
    clear hun
    obtain ⟨y, hy⟩ : ∃ y, x ^ ((p - 1) / 2 ^ K) % p = y := ⟨_, rfl⟩
    rw [hy] at hP hO h1
    have hP' : CallSpec Tryz.pr.P Tryz.pr.G 102 [newF p, u64 x, .val (.int .u64 ((IntKind.wrap .u64 ((p : Int) - 1)).fdiv (2 ^ (min (IntKind.wrap .u64 (K : Int)).toNat (IntKind.bits .u64)))))] (u64 y) := by rw [e3]; exact hP
    refine ev_seq (ev_block ?_)
    refine ev_rs [u64 y] rfl (by repeat' (first | exact trivial | exact gd_t | exact gd_f | exact efit | exact .inl hP' | exact (fun _ => rfl) | intro _ | apply And.intro | assumption | exact rfl | exact gd_t (by assumption) | exact gd_f (by assumption) | exact gd_a (by assumption) (by assumption) | exact gd_b (by assumption) (by assumption))) ?_
    cases hord : ordF p 63 0 y with
    | none =>
      rw [hord] at h1 hO
      have hO : CallSpec Tryz.pr.P Tryz.pr.G 103 [newF p, u64 y] (.tup 2 (two (i64 0) (Vinc.bool false))) := hO
      refine ev_seq (ev_rs [.tup 2 (two (i64 0) (Vinc.bool false))] rfl ⟨.inl hO, trivial⟩ ?_)
      refine ev_rs [] rfl (by repeat' (first | exact trivial | exact gd_t | exact gd_f | exact (fun _ => rfl) | intro _ | apply And.intro | assumption | exact rfl | exact gd_t (by assumption) | exact gd_f (by assumption) | exact gd_a (by assumption) (by assumption) | exact gd_b (by assumption) (by assumption))) (ev_ct rfl (ev_exit ?_))
      exact ev_region [] rfl trivial (round0 (f, x + 1) ⟨h1, by dsimp only; omega⟩ (Nat.lt_succ_self f) ⟨le_0, le_0, le_0, le_e (congrArg (fun z => PV.val (.int .u64 z)) (show IntKind.wrap .u64 ((x : Int) + ((1 : Nat) : Int)) = ((x + 1 : Nat) : Int) by rw [wrapAdd, Nat.mod_eq_of_lt (by omega)])), trivial⟩)
    | some n =>
      rw [hord] at h1 hO
      have h1 : (bif Nat.beq n K then some y else rootF p K f (x + 1)) = some w := h1
      have hO : CallSpec Tryz.pr.P Tryz.pr.G 103 [newF p, u64 y] (.tup 2 (two (i64 n) (Vinc.bool true))) := hO
      refine ev_seq (ev_rs [.tup 2 (two (i64 n) (Vinc.bool true))] rfl ⟨.inl hO, trivial⟩ ?_)
      by_cases hn : n = K
      · have hb : Nat.beq n K = true := by rw [hn]; exact Nat.beq_refl K
        rw [hb] at h1
        have hyw : y = w := Option.some.inj h1
        subst hyw
        refine ev_rs [] rfl (by repeat' (first | exact trivial | exact gd_t | exact gd_f | exact (fun _ => rfl) | intro _ | apply And.intro | assumption | exact rfl | exact gd_t (by assumption) | exact gd_f (by assumption) | exact gd_a (by assumption) (by assumption) | exact gd_b (by assumption) (by assumption))) (ev_cf (congrArg (fun z => AV.p (PV.val (.bool z))) (show ((n : Int) != (K : Int)) = false by rw [hn]; exact bne_self_eq_false _)) (ev_sk ?_))
        exact ev_rs [] rfl trivial (ev_ret (ret2 (fz_p (PLe.refl _)) (fz_p (PLe.refl _))))
      · have hb : Nat.beq n K = false := by
          cases hb : Nat.beq n K
          · rfl
          · exact absurd (Nat.eq_of_beq_eq_true hb) hn
        rw [hb] at h1
        refine ev_rs [] rfl (by repeat' (first | exact trivial | exact gd_t | exact gd_f | exact (fun _ => rfl) | intro _ | apply And.intro | assumption | exact rfl | exact gd_t (by assumption) | exact gd_f (by assumption) | exact gd_a (by assumption) (by assumption) | exact gd_b (by assumption) (by assumption))) (ev_ct (congrArg (fun z => AV.p (PV.val (.bool z))) (show ((n : Int) != (K : Int)) = true from bne_iff_ne.mpr (by omega))) (ev_exit ?_))
        exact ev_region [] rfl trivial (round0 (f, x + 1) ⟨h1, by dsimp only; omega⟩ (Nat.lt_succ_self f) ⟨le_0, le_0, le_0, le_e (congrArg (fun z => PV.val (.int .u64 z)) (show IntKind.wrap .u64 ((x : Int) + ((1 : Nat) : Int)) = ((x + 1 : Nat) : Int) by rw [wrapAdd, Nat.mod_eq_of_lt (by omega)])), trivial⟩)

set_option maxRecDepth 40000 in
theorem Scan_spec {k : Nat} (hk1 : 1 ≤ k) (hk : k < 12) {f : Nat} {res : List Nat} (hs : scanF (2 ^ k) 3 f (9223372036854775806 / 2 ^ k) [] = some res) : CallSpec Tryz.pr.P Tryz.pr.G 76 [i64 k, i64 3, u64 9223372036854775808] (.tup 2 (two (u64s res) (i64 0))) := by
  have hcond : (bif bif bif bif decide ((k : Int) < 1) then true else decide ((k : Int) > 40) then true else decide ((3 : Int) < 1) then true else decide ((3 : Int) > 64) then true else decide ((9223372036854775808 : Int) > 9223372036854775808)) = false := by
    rw [decide_eq_false (by omega), decide_eq_false (by omega)]; rfl
  have hN : 2 ^ k ≤ 2048 := pow_fit k hk
  have hN0 : 0 < 2 ^ k := Nat.pow_pos (by decide)
  have e1 := shlU k hk
  have efit := shl_fit k hk
  have e2 : IntKind.wrap .u64 ((IntKind.wrap .u64 (9223372036854775808 - 2)).tdiv ((2 ^ k : Nat) : Int)) = ((9223372036854775806 / 2 ^ k : Nat) : Int) := by
    rw [show IntKind.wrap .u64 (9223372036854775808 - 2) = ((9223372036854775806 : Nat) : Int) from rfl]
    exact tdivN _ _ (by decide)
  have hc0 : 9223372036854775806 / 2 ^ k * 2 ^ k ≤ 9223372036854775806 := Nat.div_mul_le_self _ _
  generalize 9223372036854775806 / 2 ^ k = c0 at *
  refine callSpec_of Tryz.pr Tryz.func76 rfl rfl rfl fun w0 ok0 hok hG => ?_
  refine ev_rs [] rfl trivial ?_
  refine ev_seq (ev_rs [] rfl (by repeat' (first | exact trivial | exact gd_t | exact gd_f | exact (fun _ => rfl) | intro _ | apply And.intro | assumption | exact rfl | exact gd_t (by assumption) | exact gd_f (by assumption) | exact gd_a (by assumption) (by assumption) | exact gd_b (by assumption) (by assumption))) (ev_cf (congrArg (fun z => AV.p (PV.val (.bool z))) hcond) (ev_sk ?_)))
  refine ev_rs [] rfl (by repeat' (first | exact trivial | exact gd_t | exact gd_f | exact efit | exact (fun _ => rfl) | intro _ | apply And.intro | assumption | exact rfl | exact gd_t (by assumption) | exact gd_f (by assumption) | exact gd_a (by assumption) (by assumption) | exact gd_b (by assumption) (by assumption))) (ev_n 8 (2 ^ k) rfl e1 ?_)
  clear e1 efit
  generalize 2 ^ k = u at *
  have b1 : (u : Int) ≠ 0 := by omega
  refine ev_rs [] rfl trivial (ev_nilown 9 909 rfl rfl ?_)
  refine ev_seq (ev_rs [] rfl trivial (ev_cf rfl (ev_sk ?_)))
  refine ev_at (α := Unit) (fun _ => False) (fun _ => []) (fun _ => []) ?_ ?_
  · refine ev_rs [] rfl (by repeat' (first | exact trivial | exact gd_t | exact gd_f | exact b1 | exact (fun _ => rfl) | intro _ | apply And.intro | assumption | exact rfl | exact gd_t (by assumption) | exact gd_f (by assumption) | exact gd_a (by assumption) (by assumption) | exact gd_b (by assumption) (by assumption))) (ev_n 10 c0 rfl e2 ?_)
    refine ev_block (ev_while (α := Nat × Nat × List Nat) (fun q => scanF u 3 q.1 q.2.1 q.2.2 = some res ∧ q.2.2.length < 3 ∧ q.2.1 * u ≤ 9223372036854775806) (fun q => [(1, .p (i64 3)), (8, .p (u64 u)), (9, .own 909 0 q.2.2.length 1), (10, .p (u64 q.2.1))])
      (fun q => [(909, ob64 q.2.2)]) (fun q => q.1) (f, c0, []) ⟨hs, (by decide : (0 : Nat) < 3), hc0⟩ (wk_ob rfl (fun hd => ⟨le_refl hd _, le_refl hd _, le_o rfl, le_refl hd _, trivial⟩)) ?_)
    rintro ⟨f, c, l⟩ ⟨h1, h2, h3⟩
    dsimp only at h1 h2 h3
    cases f with
    | zero => cases h1
    | succ f =>
    have hun : scanF u 3 (f + 1) c l = bif Nat.beq c 0 then none else bif Nat.beq (bif isB (c * u + 1) then l ++ [c * u + 1] else l).length 3 then some (bif isB (c * u + 1) then l ++ [c * u + 1] else l) else scanF u 3 f (c - 1) (bif isB (c * u + 1) then l ++ [c * u + 1] else l) := rfl
    rw [hun] at h1
    clear hun
    refine ev_seq (ev_rs [] rfl trivial (ev_cond rfl (fun hq => ev_sk ?_) (fun hq => ?_)))
    · have hc : 0 < c := Int.ofNat_lt.mp (of_decide_eq_true hq)
      have hbc : Nat.beq c 0 = false := by
        cases hb : Nat.beq c 0
        · rfl
        · have := Nat.eq_of_beq_eq_true hb
          omega
      rw [hbc] at h1
      have e3 : IntKind.wrap .u64 (IntKind.wrap .u64 ((c : Int) * (u : Int)) + 1) = ((c * u + 1 : Nat) : Int) := by
        rw [wrapMul, Nat.mod_eq_of_lt (by omega)]
        exact (wrapAdd (c * u) 1).trans (by rw [Nat.mod_eq_of_lt (by omega)])
      have hcu : (c - 1) * u ≤ 9223372036854775806 := Nat.le_trans (Nat.mul_le_mul_right u (Nat.sub_le c 1)) h3
      have hI := Is_spec (c * u + 1) (by omega)
      obtain ⟨x, hx⟩ : ∃ x, c * u + 1 = x := ⟨_, rfl⟩
      rw [hx] at h1 e3 hI
      obtain ⟨l', hl'⟩ : ∃ l', (bif isB x then l ++ [x] else l) = l' := ⟨_, rfl⟩
      rw [hl'] at h1
      have hlen : l'.length ≤ 3 := by
        rw [← hl']
        cases isB x
        · exact Nat.le_of_lt h2
        · show (l ++ [x]).length ≤ 3
          rw [List.length_append]
          exact h2
      have q1 : l.length + 1 ≤ 1099511627776 := by omega
      refine ev_seq (ev_block ?_)
      refine ev_seq (ev_rs [] rfl trivial (ev_n 11 x rfl e3 ?_))
      refine ev_rs [Vinc.bool (isB x)] rfl ⟨.inl hI, trivial⟩ (ev_cond rfl (fun hB => ?_) (fun hB => ?_))
      · rw [hB] at hl'
        have hl' : l ++ [x] = l' := hl'
        refine ev_region [] rfl (by repeat' (first | exact trivial | exact gd_t | exact gd_f | exact q1 | exact leb rfl | exact (fun _ => rfl) | intro _ | apply And.intro | assumption | exact rfl | exact gd_t (by assumption) | exact gd_f (by assumption) | exact gd_a (by assumption) (by assumption) | exact gd_b (by assumption) (by assumption))) ?_
        refine ev_app 9 52 l [x] rfl rfl (show l.length + 1 = _ by rfl) (show l.length + 1 = _ by rfl) (show l.length = _ by rfl) (fun _ _ => rfl) (fun q hq => by match q, hq with | 0, _ => rfl) ?_
        subst hl'
        refine ev_wk (σ' := mk [(1, .p (i64 3)), (8, .p (u64 u)), (9, .own 909 0 (l ++ [x]).length 1), (10, .p (u64 c))] [(909, ob64 (l ++ [x]))]) (wk_l (ren2 909 52) (all1 rfl) (fun hd => ⟨le_refl hd _, le_refl hd _, le_own (ρ := ren2 909 52) (i := 909) rfl, le_refl hd _, trivial⟩) (fun hd => ⟨⟨_, rfl, Nat.le_refl _, fun j _ => le_refl hd _⟩, trivial⟩) rfl) ?_
        generalize l ++ [x] = l' at *
        refine ev_rs [] rfl trivial (ev_cond rfl (fun hB => ?_) (fun hB => ?_))
        · have h3' : l'.length = 3 := Int.ofNat_inj.mp (beq_iff_eq.mp hB)
          rw [h3'] at h1
          have h1 : some l' = some res := h1
          obtain rfl := Option.some.inj h1
          exact ev_rs [] rfl trivial (ev_ret (ret2 (fz_ob rfl) (fz_p (PLe.refl _))))
        · have h3' : l'.length ≠ 3 := fun e => beq_eq_false_iff_ne.mp hB (by rw [e]; rfl)
          have hb3 : Nat.beq l'.length 3 = false := by
            cases hb : Nat.beq l'.length 3
            · rfl
            · exact absurd (Nat.eq_of_beq_eq_true hb) h3'
          rw [hb3] at h1
          refine ev_skip ?_
          exact ev_region [] rfl trivial ⟨(f, c - 1, l'), ⟨h1, by dsimp only; omega, hcu⟩, Nat.lt_succ_self f, wk_ob rfl (fun hd => ⟨le_refl hd _, le_refl hd _, le_o rfl, le_n hd (congrArg (fun z => PV.val (.int .u64 z)) (wrapSub c 1 (by omega) (by
            have : c * 1 ≤ c * u := Nat.mul_le_mul_left c (by omega)
            omega))), trivial⟩)⟩
      · rw [hB] at hl'
        have hl' : l = l' := hl'
        subst hl'
        refine ev_sk ?_
        refine ev_rs [] rfl trivial (ev_cond rfl (fun hB => ?_) (fun hB => ?_))
        · have h3' : l.length = 3 := Int.ofNat_inj.mp (beq_iff_eq.mp hB)
          rw [h3'] at h1
          have h1 : some l = some res := h1
          obtain rfl := Option.some.inj h1
          exact ev_rs [] rfl trivial (ev_ret (ret2 (fz_ob rfl) (fz_p (PLe.refl _))))
        · have h3' : l.length ≠ 3 := fun e => beq_eq_false_iff_ne.mp hB (by rw [e]; rfl)
          have hb3 : Nat.beq l.length 3 = false := by
            cases hb : Nat.beq l.length 3
            · rfl
            · exact absurd (Nat.eq_of_beq_eq_true hb) h3'
          rw [hb3] at h1
          refine ev_skip ?_
          exact ev_region [] rfl trivial ⟨(f, c - 1, l), ⟨h1, by dsimp only; omega, hcu⟩, Nat.lt_succ_self f, wk_ob rfl (fun hd => ⟨le_refl hd _, le_refl hd _, le_o rfl, le_n hd (congrArg (fun z => PV.val (.int .u64 z)) (wrapSub c 1 (by omega) (by
            have : c * 1 ≤ c * u := Nat.mul_le_mul_left c (by omega)
            omega))), trivial⟩)⟩
    · exfalso
      have hc : c = 0 := by
        have := of_decide_eq_false hq
        dsimp only at this
        omega
      rw [hc] at h1
      cases h1
  rintro ⟨⟩ hF
  exact hF.elim

end Go.Proofs

/- Transforms at some points, walked: a new plan. -/
set_option linter.unusedVariables false
namespace Go.Proofs
open Go Vinc Vinc.Num

/-- The roots of a plan. -/
def rootsK (p K w : Nat) : List Nat := tabL (fun i => sqK p (K - i) w) (K + 1)

noncomputable def halfK (p K : Nat) : Nat := if K = 0 then 0 else minv p 2

noncomputable def planA (p K hf : Nat) : Nat → AV
  | 0 => .p (newF p)
  | 1 => .p (i64 K)
  | 2 => .own 34 0 (K + 1) 1
  | _ => .p (u64 hf)

noncomputable abbrev planOb (p K hf : Nat) : Ob := ⟨4, planA p K hf⟩

theorem fz_plan {c : Cx} {σ : St} {p K hf : Nat} {o : Ob} {rs : List Nat} (hl : rs.length = K + 1) (h34 : σ.h 34 = some (ob64 rs)) (h0 : o.f 0 = .p (newF p)) (h1 : o.f 1 = .p (i64 K)) (h2 : o.f 2 = .own 34 0 (K + 1) 1) (h3 : o.f 3 = .p (u64 hf)) :
    ∀ j, j < 4 → FreezeLe c σ (o.f j) (planC p K rs hf j) := fun j hj => by
  match j, hj with
  | 0, _ => rw [h0]; exact fz_p (PLe.refl _)
  | 1, _ => rw [h1]; exact fz_p (PLe.refl _)
  | 2, _ => rw [h2]; exact fz_ob' h34 hl.symm rfl
  | 3, _ => rw [h3]; exact fz_p (PLe.refl _)

theorem le_planA {c : Cx} {σ σ' : St} {p K hf : Nat} {f : Nat → AV} (hr : Ren σ σ' (fun i => i)) (hs : (σ'.h 34).isSome = true) (h0 : f 0 = .p (newF p)) (h1 : f 1 = .p (i64 K)) (h2 : f 2 = .own 34 0 (K + 1) 1) (h3 : f 3 = .p (u64 hf)) :
    ∀ j, j < 4 → Le c σ σ' (fun i => i) (f j) (planA p K hf j) := fun j hj => by
  match j, hj with
  | 0, _ => rw [h0]; exact le_refl hr _
  | 1, _ => rw [h1]; exact le_refl hr _
  | 2, _ => rw [h2]; exact le_o hs
  | 3, _ => rw [h3]; exact le_refl hr _

set_option maxRecDepth 40000 in
theorem tftNew_spec {p K : Nat} (hm : MayM p) (hb : isB p = true) (hodd : p % 2 = 1) (hK : K < 12) (hpk : (p - 1) % 2 ^ K = 0) {f0 w : Nat} (hf : f0 ≤ 100) (hr : rootF p K f0 1 = some w) :
    CallSpec Tryz.pr.P Tryz.pr.G 77 [u64 p, i64 K] (.tup 2 (two (planP p K (rootsK p K w) (halfK p K)) (i64 0))) := by
  have hR := Root_spec hm hb hK hpk hf hr
  have hNew := New_spec hm
  have hI := Inv_spec (b := bk p) (t := tw p) hm 2
  have hg : Nat.gcd 2 p = 1 := by rw [Nat.gcd_rec, hodd]; rfl
  rw [(wrong_gcd hm).mpr hg] at hI
  obtain ⟨f, hff⟩ : ∃ f : Nat → Nat, f = fun i => sqK p (K - i) w := ⟨_, rfl⟩
  have hrk : rootsK p K w = tabL f (K + 1) := by rw [hff]; rfl
  have hfj : ∀ j, f j = sqK p (K - j) w := fun j => by rw [hff]
  have hhf0 : K = 0 → halfK p K = 0 := fun h => if_pos h
  have hhf1 : K ≠ 0 → halfK p K = minv p 2 := fun h => if_neg h
  rw [hrk]
  clear hrk hff
  generalize halfK p K = hlf at *
  generalize minv p 2 = iv at *
  have ez : IntKind.wrap .i64 ((K : Int) + 1) = ((K + 1 : Nat) : Int) := by rw [wrapI _ (by omega) (by omega)]; rfl
  have b1 : (0 : Int) ≤ IntKind.wrap .i64 ((K : Int) + 1) := by rw [ez]; omega
  have b2 : IntKind.wrap .i64 ((K : Int) + 1) ≤ 1099511627776 := by rw [ez]; omega
  have ezn : (IntKind.wrap .i64 ((K : Int) + 1)).toNat = K + 1 := by rw [ez]; rfl
  refine callSpec_of Tryz.pr Tryz.func77 rfl rfl rfl fun w0 ok0 hok hG => ?_
  refine ev_rs [] rfl trivial ?_
  refine ev_seq (ev_rs [] rfl trivial (ev_cf (congrArg (fun z => AV.p (PV.val (.bool z))) (decide_eq_false (by omega) : decide ((K : Int) > 20) = false)) (ev_sk ?_)))
  refine ev_rs [.tup 2 (two (u64 w) (i64 0))] rfl ⟨.inl hR, trivial⟩ ?_
  refine ev_seq (ev_rs [] rfl trivial (ev_cf rfl (ev_sk ?_)))
  refine ev_rs [.tup 2 (two (newF p) (i64 0))] rfl ⟨.inl hNew, trivial⟩ ?_
  refine ev_seq (ev_rs [] rfl trivial (ev_cf rfl (ev_sk ?_)))
  refine ev_rs [] rfl (by repeat' (first | exact trivial | exact gd_t | exact gd_f | exact b1 | exact b2 | exact Int.le_refl _ | exact (fun _ => rfl) | intro _ | apply And.intro | assumption | exact rfl | exact gd_t (by assumption) | exact gd_f (by assumption) | exact gd_a (by assumption) (by assumption) | exact gd_b (by assumption) (by assumption))) ?_
  refine ev_made 34 34 (K + 1) rfl rfl ezn ?_
  refine ev_at (α := Unit) (fun _ => True) (fun _ => [(1, .p (i64 K)), (7, .p (i64 0)), (8, .p (newF p)), (9, .oat 36 0)]) (fun _ => [(34, ob64 (tabL f (K + 1))), (36, planOb p K 0)]) ?_ ?_
  · refine ev_rs [] rfl trivial ?_
    refine ev_block (ev_while (α := Nat) (fun k => k ≤ K + 1) (fun k => [(1, .p (i64 K)), (6, .p (u64 (sqK p (K + 1 - k) w))), (7, .p (i64 0)), (8, .p (newF p)), (9, .oat 36 0), (10, .p (i64 ((k : Int) - 1)))])
      (fun k => [(34, ob64 (tabD f (K + 1) k)), (36, planOb p K 0)]) (fun k => k) (K + 1) (Nat.le_refl _)
      (wk_l (fun i => i) (all2 rfl rfl) (fun hd => ⟨le_refl hd _, le_n hd (congrArg u64 (show w = sqK p (K + 1 - (K + 1)) w by rw [Nat.sub_self]; rfl)), le_refl hd _, le_refl hd _, le_a rfl, le_n hd (congrArg (fun z => PV.val (.int .i64 z)) (by omega)), trivial⟩)
        (fun hd => ⟨⟨_, rfl, (by show (tabD f (K + 1) (K + 1)).length ≤ (List.replicate (K + 1) 0).length; rw [tabD_rep]; exact Nat.le_refl _), fun j _ => by show Le _ _ _ _ (.p (u64 ((List.replicate (K + 1) 0).getD j 0))) (.p (u64 ((tabD f (K + 1) (K + 1)).getD j 0))); rw [tabD_rep]; exact le_refl hd _⟩,
          ⟨_, rfl, leb rfl, le_planA hd rfl rfl rfl (congrArg (fun z => AV.own 34 0 z 1) ezn) rfl⟩, trivial⟩) rfl) ?_)
    rintro k h1
    refine ev_seq (ev_rs [] rfl trivial (ev_cond rfl (fun hq => ev_sk ?_) (fun hq => ev_exit ?_)))
    · have hk0 : (0 : Int) ≤ (k : Int) - 1 := of_decide_eq_true hq
      obtain ⟨j, rfl⟩ : ∃ j, k = j + 1 := ⟨k - 1, by omega⟩
      have ej : ((j + 1 : Nat) : Int) - 1 = (j : Int) := by omega
      have hw1 : sqK p (K + 1 - (j + 1)) w = f j := by rw [hfj, show K + 1 - (j + 1) = K - j by omega]
      have hw2 : f j * f j % p = sqK p (K + 1 - j) w := by rw [hfj, show K + 1 - j = (K - j) + 1 by omega]; rfl
      have hM := Mul_spec (b := bk p) (t := tw p) hm (f j) (f j)
      rw [hw2] at hM
      have hdl : (tabD f (K + 1) (j + 1)).length = K + 1 := len_tabL _ _
      have d1 : (0 : Int) ≤ (j : Int) := by omega
      have d2 : (j : Int) < ((K + 1 : Nat) : Int) := by omega
      have d3 : j + 1 ≤ (tabD f (K + 1) (j + 1)).length := by omega
      refine ev_eq 10 (.p (i64 j)) (congrArg (fun z => AV.p (PV.val (.int .i64 z))) ej) (ev_eq 6 (.p (u64 (f j))) (congrArg (fun z : Nat => AV.p (u64 z)) hw1) ?_)
      refine ev_seq (ev_block ?_)
      refine ev_rs [] rfl (by repeat' (first | exact trivial | exact gd_t | exact gd_f | exact leb rfl | exact d1 | exact d2 | exact d3 | exact (fun _ => rfl) | intro _ | apply And.intro | assumption | exact rfl | exact gd_t (by assumption) | exact gd_f (by assumption) | exact gd_a (by assumption) (by assumption) | exact gd_b (by assumption) (by assumption))) ?_
      refine ev_set 34 j (f j) rfl rfl rfl (by omega) ?_
      refine ev_region [u64 (sqK p (K + 1 - j) w)] rfl ⟨.inl hM, trivial⟩ ?_
      exact ev_region [] rfl trivial ⟨j, by omega, by dsimp only; omega, wk_l (fun i => i) (all2 rfl rfl) (fun hd => ⟨le_refl hd _, le_refl hd _, le_refl hd _, le_refl hd _, le_a rfl, le_n hd (congrArg (fun z => PV.val (.int .i64 z)) (wrapI _ (by omega) (by omega))), trivial⟩)
        (fun hd => ⟨⟨_, congrArg (fun l => some (ob64 l)) (tabD_set f (K + 1) j (by omega)), Nat.le_refl _, fun j _ => le_refl hd _⟩, ⟨_, rfl, leb rfl, le_planA hd rfl rfl rfl rfl rfl⟩, trivial⟩) rfl⟩
    · have hk : k = 0 := by
        have := of_decide_eq_false hq
        omega
      subst hk
      exact at_l (fun i => i) () trivial (all2 rfl rfl) (fun hd => ⟨le_refl hd _, le_refl hd _, le_refl hd _, le_a rfl, trivial⟩)
        (fun hd => ⟨⟨_, congrArg (fun l => some (ob64 l)) (tabD_zero f (K + 1)), Nat.le_refl _, fun j _ => le_refl hd _⟩, ⟨_, rfl, leb rfl, le_planA hd rfl rfl rfl rfl rfl⟩, trivial⟩) rfl
  rintro ⟨⟩ -
  have hrl : (tabL f (K + 1)).length = K + 1 := len_tabL _ _
  refine ev_seq (ev_rs [] rfl trivial (ev_cond rfl (fun hq => ?_) (fun hq => ?_)))
  · have h0 : K ≠ 0 := by
      have : 0 < K := Int.ofNat_lt.mp (of_decide_eq_true hq)
      omega
    rw [hhf1 h0]
    refine ev_region [.tup 2 (two (u64 iv) (i64 ((0 : Nat) : Int)))] rfl (by repeat' (first | exact trivial | exact gd_t | exact gd_f | exact leb rfl | exact .inl hI | exact (fun _ => rfl) | intro _ | apply And.intro | assumption | exact rfl | exact gd_t (by assumption) | exact gd_f (by assumption) | exact gd_a (by assumption) (by assumption) | exact gd_b (by assumption) (by assumption))) ?_
    refine ev_rs [] rfl trivial (ev_ret (ret2 (fz_oat rfl (leb rfl) (fz_plan hrl rfl rfl rfl rfl rfl)) (fz_p (PLe.refl _))))
  · have h0 : K = 0 := by
      have := of_decide_eq_false hq
      omega
    rw [hhf0 h0]
    refine ev_sk ?_
    refine ev_rs [] rfl trivial (ev_ret (ret2 (fz_oat rfl (leb rfl) (fz_plan hrl rfl rfl rfl rfl rfl)) (fz_p (PLe.refl _))))

end Go.Proofs

/- Long products, walked: the plans, the products modulo three primes. -/
set_option linter.unusedVariables false
namespace Go.Proofs
open Go Vinc Vinc.Num

noncomputable def planK (K i : Nat) : PV := planP ((psK K).getD i 0) K (rootsK ((psK K).getD i 0) K ((wsK K).getD i 0)) (halfK ((psK K).getD i 0) K)

theorem ps_may {K i : Nat} (hK : K < 12) (hi : i < 3) : MayM ((psK K).getD i 0) := by
  have := ps_fits K hK i hi
  exact ⟨by omega, this.2.1⟩

theorem ps_root {K i : Nat} (hK : K < 12) (hi : i < 3) : rootF ((psK K).getD i 0) K 40 1 = some ((wsK K).getD i 0) := by
  have h := ps_fits K hK i hi
  rw [rootG_eq (by omega) (by omega)]
  exact root_all K hK i hi

theorem planK_new {K i : Nat} (hK : K < 12) (hi : i < 3) : CallSpec Tryz.pr.P Tryz.pr.G 77 [u64 ((psK K).getD i 0), i64 K] (.tup 2 (two (planK K i) (i64 0))) := by
  have h := ps_fits K hK i hi
  exact tftNew_spec (ps_may hK hi) (ps_isB K hK i hi) h.2.2.1 hK h.2.2.2 (by decide) (ps_root hK hi)

theorem log_len (n : Nat) (h0 : 1 ≤ n) (hn : n ≤ 2048) : len64 (n - 1) < 12 ∧ n ≤ 2 ^ len64 (n - 1) := by
  unfold len64
  split
  · exact ⟨by decide, by rename_i h; show n ≤ 1; omega⟩
  · rename_i h
    have h1 : Nat.log2 (n - 1) < 11 := (Nat.log2_lt h).mpr (by omega)
    have h2 := (Nat.log2_lt (k := Nat.log2 (n - 1) + 1) h).mp (Nat.lt_succ_self _)
    omega

/-- The first of some values, the others not yet told. -/
noncomputable def upTo (f : Nat → PV) (i : Nat) : Nat → AV := fun j => .p (if j < i then f j else .any)

theorem upTo_at {f : Nat → PV} {i j : Nat} (h : j < i) : pvOf (upTo f i j) = f j := if_pos h

theorem le_upTo {c : Cx} {σ σ' : St} {ρ : Nat → Nat} {f : Nat → PV} {i : Nat} (hd : Ren σ σ' ρ) (j : Nat) : Le c σ σ' ρ (upd (upTo f i) i (.p (f i)) j) (upTo f (i + 1) j) := by
  unfold upTo
  refine le_upd (fun e => ?_) (fun e => ?_)
  · subst e
    rw [if_pos (Nat.lt_succ_self j)]
    exact le_refl hd _
  · by_cases h : j < i
    · rw [if_pos h, if_pos (by omega)]
      exact le_refl hd _
    · rw [if_neg h, if_neg (by omega)]
      exact le_refl hd _

set_option maxRecDepth 40000 in
theorem plans_spec (n : Nat) (h0 : 1 ≤ n) (hn : n ≤ 2048) : CallSpec Tryz.pr.P Tryz.pr.G 68 [i64 n] (.tup 3 (three (.agg 3 (planK (len64 (n - 1)))) (u64s (psK (len64 (n - 1)))) (i64 0))) := by
  obtain ⟨hK, hnK⟩ := log_len n h0 hn
  have hL := bLen_spec (n - 1) (by omega)
  generalize len64 (n - 1) = K at *
  have hsc := Scan_spec (k := max K 1) (by omega) (by omega) (scan_all K hK)
  have e1 : IntKind.wrap .i64 ((n : Int) - 1) = ((n - 1 : Nat) : Int) := (wrapI _ (by omega) (by omega)).trans (by omega)
  have e2 : IntKind.wrap .u64 (IntKind.wrap .i64 ((n : Int) - 1)) = ((n - 1 : Nat) : Int) := by rw [e1, wrapN, Nat.mod_eq_of_lt (by omega)]
  have hL' : CallSpec Tryz.pr.P Tryz.pr.G 75 [.val (.int .u64 (IntKind.wrap .u64 (IntKind.wrap .i64 ((n : Int) - 1))))] (i64 K) := by rw [e2]; exact hL
  have e3 : (if (1 : Int) > (K : Int) then (1 : Int) else (K : Int)) = ((max K 1 : Nat) : Int) := by split <;> omega
  have hsc' : CallSpec Tryz.pr.P Tryz.pr.G 76 [.val (.int .i64 (if (1 : Int) > (K : Int) then (1 : Int) else (K : Int))), i64 3, u64 9223372036854775808] (.tup 2 (two (u64s (psK K)) (i64 0))) := by rw [e3]; exact hsc
  have hlen := ps_len K hK
  have hN := fun i (hi : i < 3) => planK_new (K := K) hK hi
  generalize psK K = ps at *
  refine callSpec_of Tryz.pr Tryz.func68 rfl rfl rfl fun w0 ok0 hok hG => ?_
  refine ev_rs [] rfl trivial ?_
  refine ev_rs [] rfl trivial ?_
  refine ev_rs [i64 K] rfl (by repeat' (first | exact trivial | exact gd_t | exact gd_f | exact .inl hL' | exact (fun _ => rfl) | intro _ | apply And.intro | assumption | exact rfl | exact gd_t (by assumption) | exact gd_f (by assumption) | exact gd_a (by assumption) (by assumption) | exact gd_b (by assumption) (by assumption))) ?_
  refine ev_rs [.tup 2 (two (u64s ps) (i64 0))] rfl (by repeat' (first | exact trivial | exact gd_t | exact gd_f | exact .inl hsc' | exact (fun _ => rfl) | intro _ | apply And.intro | assumption | exact rfl | exact gd_t (by assumption) | exact gd_f (by assumption) | exact gd_a (by assumption) (by assumption) | exact gd_b (by assumption) (by assumption))) ?_
  refine ev_seq (ev_rs [] rfl trivial (ev_cf rfl (ev_sk ?_)))
  refine ev_at (α := Unit) (fun _ => True) (fun _ => [(2, .oat 2 0), (5, .oat 5 0), (7, .p (u64s ps))]) (fun _ => [(2, anyOb 3), (5, ⟨3, upTo (planK K) 3⟩)]) ?_ ?_
  · refine ev_rs [] rfl trivial ?_
    refine ev_block (ev_while (α := Nat) (fun i => i ≤ 3) (fun i => [(2, .oat 2 0), (5, .oat 5 0), (6, .p (i64 K)), (7, .p (u64s ps)), (25, .p (u64s ps)), (26, .p (i64 (3 : Nat))), (27, .p (i64 i))]) (fun i => [(2, anyOb 3), (5, ⟨3, upTo (planK K) i⟩)]) (fun i => 3 - i) 0 (Nat.zero_le _)
      (wk_l (fun i => i) (all2 rfl rfl) (fun hd => ⟨le_a rfl, le_a rfl, le_refl hd _, le_refl hd _, le_refl hd _, le_n hd (congrArg (fun n : Nat => i64 n) hlen), le_refl hd _, trivial⟩)
        (fun hd => ⟨⟨_, rfl, leb rfl, fun j _ => le_p hd (PLe.any _)⟩, ⟨_, rfl, leb rfl, fun j _ => le_p hd (PLe.any _)⟩, trivial⟩) rfl) ?_)
    rintro i h1
    refine ev_rs [] rfl trivial (ev_seq (ev_cond rfl (fun hq => ev_sk ?_) (fun hq => ev_exit ?_)))
    · have hi : i < 3 := Int.ofNat_lt.mp (of_decide_eq_true hq)
      have d1 : (0 : Int) ≤ (i : Int) := by omega
      have d2 : (i : Int) < (ps.length : Int) := by omega
      have d3 : i < ps.length := by omega
      have d4 : (i : Int) < ((3 : Nat) : Int) := by omega
      have d5 : i + 1 ≤ 3 := by omega
      refine ev_seq (ev_block ?_)
      refine ev_rs [] rfl (by repeat' (first | exact trivial | exact gd_t | exact gd_f | exact d3 | exact d1 | exact d2 | exact (fun _ => rfl) | intro _ | apply And.intro | assumption | exact rfl | exact gd_t (by assumption) | exact gd_f (by assumption) | exact gd_a (by assumption) (by assumption) | exact gd_b (by assumption) (by assumption))) ?_
      refine ev_rs [.tup 2 (two (planK K i) (i64 0))] rfl (by repeat' (first | exact trivial | exact gd_t | exact gd_f | exact .inl (hN i hi) | exact d1 | exact d4 | exact d5 | exact (fun _ => rfl) | intro _ | apply And.intro | assumption | exact rfl | exact gd_t (by assumption) | exact gd_f (by assumption) | exact gd_a (by assumption) (by assumption) | exact gd_b (by assumption) (by assumption))) ?_
      refine ev_rs [] rfl trivial (ev_cf rfl (ev_skip ?_))
      exact ev_region [] rfl trivial ⟨i + 1, hi, by dsimp only; omega, wk_l (fun i => i) (all2 rfl rfl) (fun hd => ⟨le_a rfl, le_a rfl, le_refl hd _, le_refl hd _, le_refl hd _, le_refl hd _, le_n hd (congrArg (fun z => PV.val (.int .i64 z)) (wrapI _ (by omega) (by omega))), trivial⟩)
        (fun hd => ⟨⟨_, rfl, leb rfl, fun j _ => le_p hd (PLe.any _)⟩, ⟨_, rfl, leb rfl, fun j _ => le_upTo hd j⟩, trivial⟩) rfl⟩
    · have hi : i = 3 := by
        have := of_decide_eq_false hq
        omega
      subst hi
      exact at_l (fun i => i) () trivial (all2 rfl rfl) (fun hd => ⟨le_a rfl, le_a rfl, le_refl hd _, trivial⟩) (fun hd => ⟨⟨_, rfl, leb rfl, fun j _ => le_p hd (PLe.any _)⟩, ⟨_, rfl, leb rfl, fun j _ => le_refl hd _⟩, trivial⟩) rfl
  rintro ⟨⟩ -
  refine ev_rs [] rfl (by repeat' (first | exact trivial | exact gd_t | exact gd_f | exact leb rfl | exact (fun _ => rfl) | intro _ | apply And.intro | assumption | exact rfl | exact gd_t (by assumption) | exact gd_f (by assumption) | exact gd_a (by assumption) (by assumption) | exact gd_b (by assumption) (by assumption))) ?_
  refine ev_ret (retM3 (res_cell' (n := 3) (id := 2) rfl rfl rfl rfl rfl (leb rfl) (fun j hj => ?_)) (fz_p (PLe.refl _)) (fz_p (PLe.refl _)))
  match j, hj with
  | 0, _ => exact fz_p (PLe.of_eq (upTo_at (f := planK K) (i := 3) (j := 0) (by decide)))
  | 1, _ => exact fz_p (PLe.of_eq (upTo_at (f := planK K) (i := 3) (j := 1) (by decide)))
  | 2, _ => exact fz_p (PLe.of_eq (upTo_at (f := planK K) (i := 3) (j := 2) (by decide)))

theorem vals_congr {p : Nat} {r r' : Nat → Nat} : ∀ k s l n, (∀ i, i ≤ k → r i = r' i) → vals p r k s l n = vals p r' k s l n
  | 0, _, _, _, _ => rfl
  | k + 1, s, l, n, h => by
    have hk : ∀ s l n, vals p r k s l n = vals p r' k s l n := fun s l n => vals_congr k s l n fun i hi => h i (by omega)
    unfold vals
    simp only [hk, h (k + 1) (Nat.le_refl _)]

theorem whol_congr {p : Nat} {r r' : Nat → Nat} {half : Nat} {iv : Nat → Nat} : ∀ k s vs kn, (∀ i, i ≤ k → r i = r' i) → whol p r half iv k s vs kn = whol p r' half iv k s vs kn
  | 0, _, _, _, _ => rfl
  | k + 1, s, vs, kn, h => by
    have hk : ∀ s vs kn, whol p r half iv k s vs kn = whol p r' half iv k s vs kn := fun s vs kn => whol_congr k s vs kn fun i hi => h i (by omega)
    unfold whol
    simp only [hk, h (k + 1) (Nat.le_refl _)]

theorem mulT_congr {p : Nat} {r r' : Nat → Nat} {half : Nat} {iv : Nat → Nat} {K : Nat} (h : ∀ i, i ≤ K → r i = r' i) (a b : List Nat) : mulT p r half iv K a b = mulT p r' half iv K a b := by
  unfold mulT prodV
  rw [whol_congr K _ _ _ h, vals_congr K _ _ _ h, vals_congr K _ _ _ h]

/-- What a plan's product is. -/
theorem planK_mul {K i : Nat} (hK : K < 12) (hi : i < 3) (a b : List Nat) (ha : 0 < a.length) (hb : 0 < b.length) (hn : a.length + b.length - 1 ≤ 2 ^ K) :
    CallSpec Tryz.pr.P Tryz.pr.G 69 [planK K i, u64s a, u64s b] (.tup 2 (two (u64s (oneN ((psK K).getD i 0) a b)) (i64 0))) := by
  have h := ps_fits K hK i hi
  have hm := ps_may hK hi
  have hlen : (rootsK ((psK K).getD i 0) K ((wsK K).getD i 0)).length = K + 1 := len_tabL _ _
  have hs := tftMul_spec (hlf := halfK ((psK K).getD i 0) K) hm hlen hK a b ha hb hn
  have hw : (K = 0 ∧ (wsK K).getD i 0 = 1) ∨ (0 < K ∧ sqK ((psK K).getD i 0) (K - 1) ((wsK K).getD i 0) = (psK K).getD i 0 - 1) := by
    rcases Nat.eq_zero_or_pos K with h0 | h0
    · refine .inl ⟨h0, ?_⟩
      subst h0
      exact (by decide : ∀ i, i < 3 → (wsK 0).getD i 0 = 1) i hi
    · exact .inr ⟨h0, ws_pred K hK i hi h0⟩
  have hg2 : Nat.gcd 2 ((psK K).getD i 0) = 1 := by rw [Nat.gcd_rec, h.2.2.1]; rfl
  have hhalf : 0 < K → cg ((psK K).getD i 0) ((halfK ((psK K).getD i 0) K : Int) * 2) 1 := fun h0 => by
    rw [show halfK ((psK K).getD i 0) K = minv ((psK K).getD i 0) 2 from if_neg (by omega)]
    exact minv_cg hm.1 hg2
  have hiv : ∀ c, Un ((psK K).getD i 0) c → cg ((psK K).getD i 0) ((minv ((psK K).getD i 0) c : Int) * c) 1 := fun c ⟨t, ht⟩ => by
    refine minv_cg hm.1 ?_
    generalize (psK K).getD i 0 = p at *
    obtain ⟨q, hq⟩ := ht
    have hd1 : (Nat.gcd c p : Int) ∣ (c : Int) := Int.natCast_dvd_natCast.mpr (Nat.gcd_dvd_left c p)
    have hd2 : (Nat.gcd c p : Int) ∣ (p : Int) := Int.natCast_dvd_natCast.mpr (Nat.gcd_dvd_right c p)
    have h1 : (Nat.gcd c p : Int) ∣ 1 := by
      have e : (1 : Int) = (c : Int) * t - (p : Int) * q := by omega
      rw [e]
      exact Int.dvd_sub (Int.dvd_mul_of_dvd_left hd1) (Int.dvd_mul_of_dvd_left hd2)
    exact Nat.dvd_one.mp (Int.natCast_dvd_natCast.mp h1)
  have hr := mulT_root (by have := hm.1; omega) hhalf h.2.2.1 hiv hw a b ha hb hn
  have he : mulT ((psK K).getD i 0) (fun i_1 => (rootsK ((psK K).getD i 0) K ((wsK K).getD i 0)).getD i_1 0) (halfK ((psK K).getD i 0) K) (minv ((psK K).getD i 0)) K a b = oneN ((psK K).getD i 0) a b := by
    refine (mulT_congr (fun j hj => ?_) a b).trans hr
    unfold rootsK
    rw [getD_tabL, if_pos (by omega)]
  rw [he] at hs
  exact hs

/-- Three products. -/
def threeP (K : Nat) (a b : List Nat) (i : Nat) : PV := u64s (oneN ((psK K).getD i 0) a b)

set_option maxRecDepth 40000 in
theorem parts_spec (a b : List Nat) (ha : 0 < a.length) (hb : 0 < b.length) (hn : a.length + b.length - 1 ≤ 2048) :
    CallSpec Tryz.pr.P Tryz.pr.G 64 [u64s a, u64s b] (.tup 3 (three (.agg 3 (threeP (len64 (a.length + b.length - 1 - 1)) a b)) (u64s (psK (len64 (a.length + b.length - 1 - 1)))) (i64 0))) := by
  obtain ⟨n, hnn⟩ : ∃ n, a.length + b.length - 1 = n := ⟨_, rfl⟩
  rw [hnn] at hn ⊢
  have hn0 : 1 ≤ n := by omega
  have hP := plans_spec n hn0 hn
  obtain ⟨hK, hnK⟩ := log_len n hn0 hn
  generalize len64 (n - 1) = K at *
  have hM : ∀ i, i < 3 → CallSpec Tryz.pr.P Tryz.pr.G 69 [planK K i, u64s a, u64s b] (.tup 2 (two (threeP K a b i) (i64 0))) := fun i hi => planK_mul hK hi a b ha hb (by omega)
  have en : IntKind.wrap .i64 (IntKind.wrap .i64 ((a.length : Int) + (b.length : Int)) - 1) = (n : Int) := by
    rw [wrapI ((a.length : Int) + (b.length : Int)) (by omega) (by omega), wrapI _ (by omega) (by omega)]; omega
  have hP' : CallSpec Tryz.pr.P Tryz.pr.G 68 [i64 (IntKind.wrap .i64 (IntKind.wrap .i64 ((a.length : Int) + (b.length : Int)) - 1))] (.tup 3 (three (.agg 3 (planK K)) (u64s (psK K)) (i64 0))) := by rw [en]; exact hP
  generalize psK K = ps at *
  refine callSpec_of Tryz.pr Tryz.func64 rfl rfl rfl fun w0 ok0 hok hG => ?_
  refine ev_rs [] rfl trivial ?_
  refine ev_rs [] rfl trivial ?_
  refine ev_rs [.tup 3 (three (.agg 3 (planK K)) (u64s ps) (i64 0))] rfl (by repeat' (first | exact trivial | exact gd_t | exact gd_f | exact leb rfl | exact .inl hP' | exact (fun _ => rfl) | intro _ | apply And.intro | assumption | exact rfl | exact gd_t (by assumption) | exact gd_f (by assumption) | exact gd_a (by assumption) (by assumption) | exact gd_b (by assumption) (by assumption))) ?_
  refine ev_at (α := Unit) (fun _ => True) (fun _ => [(4, .oat 4 0), (7, .oat 7 0), (9, .p (u64s ps)), (10, .p (i64 0))]) (fun _ => [(4, anyOb 3), (7, ⟨3, upTo (threeP K a b) 3⟩)]) ?_ ?_
  · refine ev_rs [] rfl trivial ?_
    refine ev_block (ev_while (α := Nat) (fun i => i ≤ 3) (fun i => [(0, .p (u64s a)), (1, .p (u64s b)), (4, .oat 4 0), (7, .oat 7 0), (8, .oat 8 0), (9, .p (u64s ps)), (10, .p (i64 0)), (11, .p (i64 i))])
      (fun i => [(4, anyOb 3), (7, ⟨3, upTo (threeP K a b) i⟩), (8, ⟨3, fun j => .p (planK K j)⟩)]) (fun i => 3 - i) 0 (Nat.zero_le _)
      (wk_l (fun i => i) (all3 rfl rfl rfl) (fun hd => ⟨le_refl hd _, le_refl hd _, le_a rfl, le_a rfl, le_a rfl, le_refl hd _, le_refl hd _, le_refl hd _, trivial⟩)
        (fun hd => ⟨⟨_, rfl, leb rfl, fun j _ => le_p hd (PLe.any _)⟩, ⟨_, rfl, leb rfl, fun j _ => le_p hd (PLe.any _)⟩, ⟨_, rfl, leb rfl, fun j hj => by
          match j, hj with
          | 0, _ => exact le_refl hd _
          | 1, _ => exact le_refl hd _
          | 2, _ => exact le_refl hd _⟩, trivial⟩) rfl) ?_)
    rintro i h1
    refine ev_seq (ev_rs [] rfl (by repeat' (first | exact trivial | exact gd_t | exact gd_f | exact (fun _ => rfl) | intro _ | apply And.intro | assumption | exact rfl | exact gd_t (by assumption) | exact gd_f (by assumption) | exact gd_a (by assumption) (by assumption) | exact gd_b (by assumption) (by assumption))) (ev_cond rfl (fun hq => ev_sk ?_) (fun hq => ev_exit ?_)))
    · have hi : i < 3 := by
        cases hd : decide ((i : Int) < 3)
        · have hq' : (bif decide ((i : Int) < 3) then ((0 : Int) == 0) else false) = true := hq
          rw [hd] at hq'
          cases hq'
        · have := of_decide_eq_true hd
          omega
      have d1 : (0 : Int) ≤ (i : Int) := by omega
      have d2 : (i : Int) < ((3 : Nat) : Int) := by omega
      have d3 : i < 3 := hi
      have d4 : i + 1 ≤ 3 := by omega
      refine ev_seq (ev_block ?_)
      refine ev_region [.tup 2 (two (threeP K a b i) (i64 0))] rfl (by repeat' (first | exact trivial | exact gd_t | exact gd_f | exact .inl (hM i hi) | exact d1 | exact d2 | exact d3 | exact d4 | exact (fun _ => rfl) | intro _ | apply And.intro | assumption | exact rfl | exact gd_t (by assumption) | exact gd_f (by assumption) | exact gd_a (by assumption) (by assumption) | exact gd_b (by assumption) (by assumption))) ?_
      exact ev_region [] rfl trivial ⟨i + 1, hi, by dsimp only; omega, wk_l (fun i => i) (all3 rfl rfl rfl) (fun hd => ⟨le_refl hd _, le_refl hd _, le_a rfl, le_a rfl, le_a rfl, le_refl hd _, le_refl hd _, le_n hd (congrArg (fun z => PV.val (.int .i64 z)) (wrapI _ (by omega) (by omega))), trivial⟩)
        (fun hd => ⟨⟨_, rfl, leb rfl, fun j _ => le_p hd (PLe.any _)⟩, ⟨_, rfl, leb rfl, fun j _ => le_upTo hd j⟩, ⟨_, rfl, leb rfl, fun j _ => le_refl hd _⟩, trivial⟩) rfl⟩
    · have hi : i = 3 := by
        cases hd : decide ((i : Int) < 3)
        · have := of_decide_eq_false hd
          omega
        · have hq' : (bif decide ((i : Int) < 3) then ((0 : Int) == 0) else false) = false := hq
          rw [hd] at hq'
          cases hq'
      subst hi
      exact at_l (fun i => i) () trivial (all2 rfl rfl) (fun hd => ⟨le_a rfl, le_a rfl, le_refl hd _, le_refl hd _, trivial⟩) (fun hd => ⟨⟨_, rfl, leb rfl, fun j _ => le_p hd (PLe.any _)⟩, ⟨_, rfl, leb rfl, fun j _ => le_refl hd _⟩, trivial⟩) rfl
  rintro ⟨⟩ -
  refine ev_rs [] rfl (by repeat' (first | exact trivial | exact gd_t | exact gd_f | exact leb rfl | exact (fun _ => rfl) | intro _ | apply And.intro | assumption | exact rfl | exact gd_t (by assumption) | exact gd_f (by assumption) | exact gd_a (by assumption) (by assumption) | exact gd_b (by assumption) (by assumption))) ?_
  refine ev_ret (retM3 (res_cell' (n := 3) (id := 4) rfl rfl rfl rfl rfl (leb rfl) (fun j hj => ?_)) (fz_p (PLe.refl _)) (fz_p (PLe.refl _)))
  match j, hj with
  | 0, _ => exact fz_p (PLe.of_eq (upTo_at (f := threeP K a b) (i := 3) (j := 0) (by decide)))
  | 1, _ => exact fz_p (PLe.of_eq (upTo_at (f := threeP K a b) (i := 3) (j := 1) (by decide)))
  | 2, _ => exact fz_p (PLe.of_eq (upTo_at (f := threeP K a b) (i := 3) (j := 2) (by decide)))

end Go.Proofs

/- Sums, differences, products by halves, walked. -/
set_option linter.unusedVariables false
namespace Go.Proofs
open Go Vinc Vinc.Num

theorem at_spec (a : List Nat) (i : Nat) : CallSpec Tryz.pr.P Tryz.pr.G 40 [u64s a, i64 i] (u64 (a.getD i 0)) := by
  refine callSpec_of Tryz.pr Tryz.func40 rfl rfl rfl fun w0 ok0 hok hG => ?_
  refine ev_rs [] rfl trivial ?_
  refine ev_seq (ev_rs [] rfl trivial (ev_cond rfl (fun h => ?_) (fun h => ev_sk ?_)))
  · have hi : i < a.length := Int.ofNat_lt.mp (of_decide_eq_true h)
    exact ev_rs [] rfl ⟨hi, ⟨by omega, by omega⟩, trivial⟩ (ev_ret (ret1 (fz_p (PLe.refl _))))
  · have hi : a.length ≤ i := by
      have := of_decide_eq_false h
      omega
    rw [getD_ge hi]
    exact ev_rs [] rfl trivial (ev_ret (ret1 (fz_p (PLe.refl _))))

theorem UAdd_spec {p : Nat} (hm : MayM p) (a b : List Nat) (hl : a.length < 1000000) (hl2 : b.length < 1000000) : CallSpec Tryz.pr.P Tryz.pr.G 18 [polyF p, u64s a, u64s b] (u64s (addN p a b)) := by
  obtain ⟨L, hL⟩ : ∃ L, max a.length b.length = L := ⟨_, rfl⟩
  obtain ⟨f, hf⟩ : ∃ f : Nat → Nat, f = fun j => (a.getD j 0 + b.getD j 0) % p := ⟨_, rfl⟩
  have hall : tabK f L L = addL p a b := by rw [tabK_all, hf, ← hL]; rfl
  have hmax : (if (b.length : Int) > (a.length : Int) then (b.length : Int) else (a.length : Int)) = (L : Int) := by rw [← hL]; split <;> omega
  refine callSpec_of Tryz.pr Tryz.func18 rfl rfl rfl fun w0 ok0 hok hG => ?_
  refine ev_rs [] rfl trivial ?_
  refine ev_seq (ev_rs [] rfl trivial (ev_cf rfl (ev_sk ?_)))
  refine ev_rs [] rfl ?_ ?_
  · refine ⟨⟨?_, ?_, ?_⟩, trivial⟩
    all_goals
      show _ ≤ (_ : Int)
      first | exact Int.le_refl _ | skip
    · exact hmax ▸ Int.natCast_nonneg _
    · exact hmax ▸ (by omega : (L : Int) ≤ 1099511627776)
  refine ev_made 7 16 L rfl rfl (show (if (b.length : Int) > (a.length : Int) then (b.length : Int) else (a.length : Int)).toNat = _ by rw [hmax]; rfl) ?_
  refine ev_at (α := Unit) (fun _ => True) (fun _ => [(7, .p (u64s (addL p a b)))]) (fun _ => []) ?_ ?_
  · refine ev_rs [] rfl trivial ?_
    refine ev_block (ev_while (α := Nat) (fun i => i ≤ L) (fun i => [(0, .p (polyF p)), (1, .p (u64s a)), (2, .p (u64s b)), (7, .own 16 0 L 1), (18, .p (i64 L)), (19, .p (i64 i))]) (fun i => [(16, ob64 (tabK f L i))]) (fun i => L - i) 0
      (Nat.zero_le _) (wk_ob rfl (fun hd => ⟨le_refl hd _, le_refl hd _, le_refl hd _, le_o rfl, le_refl hd _, le_refl hd _, trivial⟩)) ?_)
    rintro i h1
    refine ev_rs [] rfl trivial (ev_seq (ev_cond rfl (fun h => ev_sk ?_) (fun h => ev_exit ?_)))
    · have hi : i < L := Int.ofNat_lt.mp (of_decide_eq_true h)
      have hck := length_tabK f L i
      have hfi : f i = (a.getD i 0 + b.getD i 0) % p := by rw [hf]
      refine ev_seq (ev_block ?_)
      refine ev_rs [] rfl trivial ?_
      refine ev_draw [u64 (a.getD i 0), u64 (b.getD i 0), u64 (f i)] (by kernel_rfl) rfl rfl ?_ ?_
      · rw [hfi]
        exact ⟨(by omega : i + 1 ≤ (tabK f L i).length), ⟨by omega, by omega⟩, .inl (Add_spec hm _ _), .inl (at_spec b i), .inl (at_spec a i), Nat.zero_lt_one, trivial⟩
      refine ev_set 16 i (f i) rfl rfl rfl (by omega) ?_
      exact ev_region [] rfl trivial ⟨i + 1, hi, by dsimp only; omega, wk_ob rfl (fun hd => ⟨le_refl hd _, le_refl hd _, le_refl hd _, le_o rfl, le_refl hd _, le_n hd (congrArg (fun z => PV.val (.int .i64 z)) (wrapI _ (by omega) (by omega))), trivial⟩)⟩
    · have hi : i = L := by
        have := of_decide_eq_false h
        omega
      subst hi
      exact at0 () trivial ⟨le_fz' rfl (length_tabK f i i).symm hall, trivial⟩
  rintro ⟨⟩ -
  exact ev_rs [u64s (addN p a b)] rfl ⟨.inl (trim_spec _ (by rw [length_addL]; omega)), trivial⟩ (ev_ret (ret1 (fz_p (PLe.refl _))))

theorem USub_spec {p : Nat} (hm : MayM p) (a b : List Nat) (hl : a.length < 1000000) (hl2 : b.length < 1000000) : CallSpec Tryz.pr.P Tryz.pr.G 27 [polyF p, u64s a, u64s b] (u64s (subN p a b)) := by
  obtain ⟨L, hL⟩ : ∃ L, max a.length b.length = L := ⟨_, rfl⟩
  obtain ⟨f, hf⟩ : ∃ f : Nat → Nat, f = fun j => sb (a.getD j 0) (b.getD j 0) p := ⟨_, rfl⟩
  have hall : tabK f L L = subL p a b := by rw [tabK_all, hf, ← hL]; rfl
  have hmax : (if (b.length : Int) > (a.length : Int) then (b.length : Int) else (a.length : Int)) = (L : Int) := by rw [← hL]; split <;> omega
  refine callSpec_of Tryz.pr Tryz.func27 rfl rfl rfl fun w0 ok0 hok hG => ?_
  refine ev_rs [] rfl trivial ?_
  refine ev_seq (ev_rs [] rfl trivial (ev_cf rfl (ev_sk ?_)))
  refine ev_rs [] rfl ?_ ?_
  · refine ⟨⟨?_, ?_, ?_⟩, trivial⟩
    all_goals
      show _ ≤ (_ : Int)
      first | exact Int.le_refl _ | skip
    · exact hmax ▸ Int.natCast_nonneg _
    · exact hmax ▸ (by omega : (L : Int) ≤ 1099511627776)
  refine ev_made 7 16 L rfl rfl (show (if (b.length : Int) > (a.length : Int) then (b.length : Int) else (a.length : Int)).toNat = _ by rw [hmax]; rfl) ?_
  refine ev_at (α := Unit) (fun _ => True) (fun _ => [(7, .p (u64s (subL p a b)))]) (fun _ => []) ?_ ?_
  · refine ev_rs [] rfl trivial ?_
    refine ev_block (ev_while (α := Nat) (fun i => i ≤ L) (fun i => [(0, .p (polyF p)), (1, .p (u64s a)), (2, .p (u64s b)), (7, .own 16 0 L 1), (18, .p (i64 L)), (19, .p (i64 i))]) (fun i => [(16, ob64 (tabK f L i))]) (fun i => L - i) 0
      (Nat.zero_le _) (wk_ob rfl (fun hd => ⟨le_refl hd _, le_refl hd _, le_refl hd _, le_o rfl, le_refl hd _, le_refl hd _, trivial⟩)) ?_)
    rintro i h1
    refine ev_rs [] rfl trivial (ev_seq (ev_cond rfl (fun h => ev_sk ?_) (fun h => ev_exit ?_)))
    · have hi : i < L := Int.ofNat_lt.mp (of_decide_eq_true h)
      have hck := length_tabK f L i
      have hfi : f i = sb (a.getD i 0) (b.getD i 0) p := by rw [hf]
      refine ev_seq (ev_block ?_)
      refine ev_rs [] rfl trivial ?_
      refine ev_draw [u64 (a.getD i 0), u64 (b.getD i 0), u64 (f i)] (by kernel_rfl) rfl rfl ?_ ?_
      · rw [hfi]
        exact ⟨(by omega : i + 1 ≤ (tabK f L i).length), ⟨by omega, by omega⟩, .inl (Sb_spec hm _ _), .inl (at_spec b i), .inl (at_spec a i), Nat.zero_lt_one, trivial⟩
      refine ev_set 16 i (f i) rfl rfl rfl (by omega) ?_
      exact ev_region [] rfl trivial ⟨i + 1, hi, by dsimp only; omega, wk_ob rfl (fun hd => ⟨le_refl hd _, le_refl hd _, le_refl hd _, le_o rfl, le_refl hd _, le_n hd (congrArg (fun z => PV.val (.int .i64 z)) (wrapI _ (by omega) (by omega))), trivial⟩)⟩
    · have hi : i = L := by
        have := of_decide_eq_false h
        omega
      subst hi
      exact at0 () trivial ⟨le_fz' rfl (length_tabK f i i).symm hall, trivial⟩
  rintro ⟨⟩ -
  exact ev_rs [u64s (subN p a b)] rfl ⟨.inl (trim_spec _ (by rw [length_subL]; omega)), trivial⟩ (ev_ret (ret1 (fz_p (PLe.refl _))))

theorem PLe.drop {xs : List Nat} {n : Nat} (hn : n ≤ xs.length) : PLe (.sl (xs.length - n) 1 (fun j => u64 (xs.getD (n + j) 0))) (u64s (xs.drop n)) :=
  PLe.words (by simp) (fun j hj => by
    rw [List.getD_eq_getElem?_getD, List.getD_eq_getElem?_getD, List.getElem?_drop])

theorem parted_spec (a : List Nat) (n : Nat) (hl : a.length < 1000000) (hn : 0 < n) : CallSpec Tryz.pr.P Tryz.pr.G 52 [u64s a, i64 n] (.tup 2 (two (u64s (a.take n)) (u64s (a.drop n)))) := by
  obtain ⟨m, rfl⟩ : ∃ m, n = m + 1 := ⟨n - 1, by omega⟩
  refine callSpec_of Tryz.pr Tryz.func52 rfl rfl rfl fun w0 ok0 hok hG => ?_
  refine ev_rs [] rfl trivial ?_
  refine ev_seq (ev_rs [] rfl trivial (ev_cond rfl (fun h => ?_) (fun h => ev_sk ?_)))
  · have hi : a.length ≤ m + 1 := Int.ofNat_le.mp (of_decide_eq_true h)
    rw [List.take_of_length_le hi, List.drop_eq_nil_of_le hi]
    exact ev_rs [] rfl trivial (ev_ret (ret2 (fz_p (PLe.refl _)) (fz_p PLe.nil)))
  · have hi : m + 1 ≤ a.length := by
      have := of_decide_eq_false h
      omega
    exact ev_ds [] (by kernel_rfl) rfl rfl ⟨⟨by omega, by omega⟩, ⟨by omega, by omega⟩, trivial⟩ (ev_ret (ret2 (fz_p (PLe.take hi)) (fz_p (PLe.drop hi))))

/-- The three parts of a product by halves. -/
def partOf (low mid high : List Nat) : Nat → List Nat
  | 0 => low
  | 1 => mid
  | _ => high

/-- What is laid, part by part. -/
def stage (p : Nat) (low mid high : List Nat) (n L : Nat) : Nat → List Nat
  | 0 => List.replicate L 0
  | i + 1 => accK p (partOf low mid high i) (i * n) (stage p low mid high n L i) (partOf low mid high i).length

theorem length_stage (p : Nat) (low mid high : List Nat) (n L : Nat) : ∀ i, (stage p low mid high n L i).length = L
  | 0 => List.length_replicate
  | i + 1 => by unfold stage; rw [length_accK, length_stage p low mid high n L i]

theorem half_small {p : Nat} (hm : MayM p) (a b : List Nat) (hl : a.length < 100000) (hl2 : b.length < 100000) (h0 : (a.length ≤ 16 ∧ b.length ≤ 16) ∨ a.length = 0 ∨ b.length = 0) : CallSpec Tryz.pr.P Tryz.pr.G 34 [polyF p, u64s a, u64s b] (u64s (oneN p a b)) := by
  refine callSpec_of Tryz.pr Tryz.func34 rfl rfl rfl fun w0 ok0 hok hG => ?_
  refine ev_rs [] rfl trivial ?_
  refine ev_rs [] rfl trivial ?_
  refine ev_seq (ev_rs [] rfl (by repeat' (first | exact trivial | exact gd_t | exact gd_f | exact (fun _ => rfl) | intro _ | apply And.intro | assumption | exact rfl | exact gd_t (by assumption) | exact gd_f (by assumption) | exact gd_a (by assumption) (by assumption) | exact gd_b (by assumption) (by assumption))) (ev_cond rfl (fun h => ?_) (fun h => ?_)))
  · exact ev_rs [u64s (oneN p a b)] rfl ⟨.inl (one_spec hm a b (by omega) (by omega)), trivial⟩ (ev_ret (ret1 (fz_p (PLe.refl _))))
  · exfalso
    have h : (bif (bif decide ((if (b.length : Int) > (a.length : Int) then (b.length : Int) else (a.length : Int)) ≤ 16) then true else (((a.length : Nat) : Int) == 0)) then true else (((b.length : Nat) : Int) == 0)) = false := h
    rcases h0 with h0 | h0 | h0
    · have e : decide ((if (b.length : Int) > (a.length : Int) then (b.length : Int) else (a.length : Int)) ≤ 16) = true := decide_eq_true (by split <;> omega)
      rw [e] at h
      cases h
    · rw [h0] at h
      cases hd : decide ((if (b.length : Int) > ((0 : Nat) : Int) then (b.length : Int) else ((0 : Nat) : Int)) ≤ 16) <;> rw [hd] at h <;> cases h
    · rw [h0] at h
      cases hd : (bif decide ((if ((0 : Nat) : Int) > (a.length : Int) then ((0 : Nat) : Int) else (a.length : Int)) ≤ 16) then true else (((a.length : Nat) : Int) == 0)) <;> rw [hd] at h <;> cases h

theorem length_addN (p : Nat) (a b : List Nat) : (addN p a b).length ≤ max a.length b.length := by
  unfold addN
  rw [length_trimN, ← length_addL p]
  exact trimL_le _ _

theorem length_subN (p : Nat) (a b : List Nat) : (subN p a b).length ≤ max a.length b.length := by
  unfold subN
  rw [length_trimN, ← length_subL p]
  exact trimL_le _ _

theorem half_all {p : Nat} (hm : MayM p) : ∀ (N : Nat) (a b : List Nat), max a.length b.length ≤ N → N < 100000 → CallSpec Tryz.pr.P Tryz.pr.G 34 [polyF p, u64s a, u64s b] (u64s (oneN p a b)) := by
  intro N
  induction N using Nat.strongRecOn with
  | ind N ih =>
  intro a b hN hN2
  by_cases h0 : (a.length ≤ 16 ∧ b.length ≤ 16) ∨ a.length = 0 ∨ b.length = 0
  · exact half_small hm a b (by omega) (by omega) h0
  have hp0 : 0 < p := by have := hm.1; omega
  obtain ⟨M, hM⟩ : ∃ M, max a.length b.length = M := ⟨_, rfl⟩
  obtain ⟨n, hn⟩ : ∃ n, (M + 1) / 2 = n := ⟨_, rfl⟩
  obtain ⟨L, hL⟩ : ∃ L, a.length + b.length - 1 = L := ⟨_, rfl⟩
  have hmax : (if (b.length : Int) > (a.length : Int) then (b.length : Int) else (a.length : Int)) = (M : Int) := by rw [← hM]; split <;> omega
  have ha1 : (a.take n).length ≤ n := by rw [List.length_take]; omega
  have hb1 : (b.take n).length ≤ n := by rw [List.length_take]; omega
  have ha2 : (a.drop n).length ≤ n := by rw [List.length_drop]; omega
  have hb2 : (b.drop n).length ≤ n := by rw [List.length_drop]; omega
  have hla := length_addN p (a.take n) (a.drop n)
  have hlb := length_addN p (b.take n) (b.drop n)
  have hlow := ih n (by omega) (a.take n) (b.take n) (by omega) (by omega)
  have hhigh := ih n (by omega) (a.drop n) (b.drop n) (by omega) (by omega)
  have hmid0 := ih n (by omega) (addN p (a.take n) (a.drop n)) (addN p (b.take n) (b.drop n)) (by omega) (by omega)
  have hjoin := join_all hp0 a b n (by omega) (by omega) (by omega)
  have l1 := low_len p a b n (by omega) (by omega)
  have l2 := mid_len' hp0 a b n (by omega) (by omega) (by omega)
  have l3 : (oneN p (a.drop n) (b.drop n)).length = 0 ∨ 2 * n + (oneN p (a.drop n) (b.drop n)).length ≤ L := by
    rw [length_oneN', List.length_drop, List.length_drop]
    split
    · exact .inl rfl
    · exact .inr (by omega)
  rw [hL] at l1 l2
  have hlm : (oneN p (addN p (a.take n) (a.drop n)) (addN p (b.take n) (b.drop n))).length ≤ 2 * n := by
    have := length_oneN p (addN p (a.take n) (a.drop n)) (addN p (b.take n) (b.drop n))
    omega
  have hll : (oneN p (a.take n) (b.take n)).length ≤ 2 * n := by
    have := length_oneN p (a.take n) (b.take n)
    omega
  have hlh : (oneN p (a.drop n) (b.drop n)).length ≤ 2 * n := by
    have := length_oneN p (a.drop n) (b.drop n)
    omega
  have hls1 := length_subN p (oneN p (addN p (a.take n) (a.drop n)) (addN p (b.take n) (b.drop n))) (oneN p (a.take n) (b.take n))
  have hmidE : midN p a b n = subN p (subN p (oneN p (addN p (a.take n) (a.drop n)) (addN p (b.take n) (b.drop n))) (oneN p (a.take n) (b.take n))) (oneN p (a.drop n) (b.drop n)) := rfl
  have hjoinE : joinN p a b n = accK p (oneN p (a.drop n) (b.drop n)) (2 * n) (accK p (midN p a b n) (1 * n) (accK p (oneN p (a.take n) (b.take n)) (0 * n) (List.replicate L 0) (oneN p (a.take n) (b.take n)).length) (midN p a b n).length) (oneN p (a.drop n) (b.drop n)).length := by rw [← hL]; rfl
  have hP1 := parted_spec a n (by omega) (by omega)
  have hP2 := parted_spec b n (by omega) (by omega)
  have hA1 := UAdd_spec hm (a.take n) (a.drop n) (by omega) (by omega)
  have hA2 := UAdd_spec hm (b.take n) (b.drop n) (by omega) (by omega)
  have hS1 := USub_spec hm (oneN p (addN p (a.take n) (a.drop n)) (addN p (b.take n) (b.drop n))) (oneN p (a.take n) (b.take n)) (by omega) (by omega)
  have hS2 := USub_spec hm (subN p (oneN p (addN p (a.take n) (a.drop n)) (addN p (b.take n) (b.drop n))) (oneN p (a.take n) (b.take n))) (oneN p (a.drop n) (b.drop n)) (by omega) (by omega)
  rw [← hmidE] at hS2
  rw [← hjoin, hjoinE]
  clear hmidE hjoinE hjoin hlm hll hlh hla hlb
  generalize oneN p (addN p (a.take n) (a.drop n)) (addN p (b.take n) (b.drop n)) = mid0 at *
  generalize addN p (a.take n) (a.drop n) = sa at *
  generalize addN p (b.take n) (b.drop n) = sb' at *
  generalize oneN p (a.take n) (b.take n) = low at *
  generalize oneN p (a.drop n) (b.drop n) = high at *
  generalize midN p a b n = mid at *
  generalize subN p mid0 low = sub1 at *
  generalize a.take n = al at *
  generalize a.drop n = ah at *
  generalize b.take n = bl at *
  generalize b.drop n = bh at *
  have hstage : stage p low mid high n L 3 = accK p high (2 * n) (accK p mid (1 * n) (accK p low (0 * n) (List.replicate L 0) low.length) mid.length) high.length := rfl
  rw [← hstage]
  have hbnd : ∀ i, i < 3 → ∀ k, k < (partOf low mid high i).length → i * n + k < L := fun i hi k hk => by
    match i, hi with
    | 0, _ => have hk : k < low.length := hk; omega
    | 1, _ => have hk : k < mid.length := hk; omega
    | 2, _ => have hk : k < high.length := hk; omega
  have e1 : IntKind.wrap .i64 ((IntKind.wrap .i64 ((M : Int) + 1)).tdiv 2) = (n : Int) := by
    rw [wrapI ((M : Int) + 1) (by omega) (by omega)]
    have : ((M : Int) + 1).tdiv 2 = ((M + 1) / 2 : Nat) := rfl
    rw [this, hn, wrapI _ (by omega) (by omega)]
  have e2 : IntKind.wrap .i64 (IntKind.wrap .i64 ((a.length : Int) + (b.length : Int)) - 1) = (L : Int) := by
    rw [wrapI ((a.length : Int) + (b.length : Int)) (by omega) (by omega), wrapI _ (by omega) (by omega)]; omega
  refine callSpec_of Tryz.pr Tryz.func34 rfl rfl rfl fun w0 ok0 hok hG => ?_
  refine ev_rs [] rfl trivial ?_
  refine ev_rs [] rfl trivial (ev_eq 7 (.p (i64 M)) (congrArg (fun z => AV.p (PV.val (.int .i64 z))) hmax) ?_)
  have hc : (bif (bif decide ((M : Int) ≤ 16) then true else (((a.length : Nat) : Int) == 0)) then true else (((b.length : Nat) : Int) == 0)) = false := by
    rw [decide_eq_false (by omega), beq_eq_false_iff_ne.mpr (by omega), beq_eq_false_iff_ne.mpr (by omega)]
    rfl
  refine ev_seq (ev_rs [] rfl (by repeat' (first | exact trivial | exact gd_t | exact gd_f | exact (fun _ => rfl) | intro _ | apply And.intro | assumption | exact rfl | exact gd_t (by assumption) | exact gd_f (by assumption) | exact gd_a (by assumption) (by assumption) | exact gd_b (by assumption) (by assumption))) (ev_cf (congrArg (fun z => AV.p (PV.val (.bool z))) hc) (ev_sk ?_)))
  refine ev_rs [] rfl ⟨by decide, trivial⟩ (ev_eq 7 (.p (i64 n)) (congrArg (fun z => AV.p (PV.val (.int .i64 z))) e1) ?_)
  refine ev_rs [.tup 2 (two (u64s al) (u64s ah))] rfl ⟨.inl hP1, trivial⟩ ?_
  refine ev_rs [.tup 2 (two (u64s bl) (u64s bh))] rfl ⟨.inl hP2, trivial⟩ ?_
  refine ev_rs [u64s low, u64s high] rfl ⟨.inl hhigh, .inl hlow, trivial⟩ ?_
  refine ev_rs [u64s sa, u64s sb', u64s mid0] rfl ⟨.inl hmid0, .inl hA2, .inl hA1, trivial⟩ ?_
  refine ev_rs [u64s sub1, u64s mid] rfl ⟨.inl hS2, .inl hS1, trivial⟩ ?_
  refine ev_wk (σ' := mk [(0, .p (polyF p)), (1, .p (u64s a)), (2, .p (u64s b)), (7, .p (i64 n)), (12, .p (u64s low)), (13, .p (u64s high)), (14, .p (u64s mid))] []) (wk (fun i => i) ⟨le_0, le_0, le_0, le_0, le_0, le_0, le_0, trivial⟩ trivial rfl) ?_
  refine ev_rs [] rfl ?_ ?_
  · rw [e2]
    exact ⟨⟨by omega, by omega, by omega⟩, trivial⟩
  refine ev_made 15 87 L rfl rfl (show (IntKind.wrap .i64 (IntKind.wrap .i64 ((a.length : Int) + (b.length : Int)) - 1)).toNat = _ by rw [e2]; rfl) ?_
  refine ev_at (α := Unit) (fun _ => True) (fun _ => [(15, .own 87 0 L 1)]) (fun _ => [(87, ob64 (stage p low mid high n L 3))]) ?_ ?_
  · refine ev_rs [] rfl trivial ?_
    refine ev_block (ev_while (α := Nat) (fun i => i ≤ 3) (fun i => [(0, .p (polyF p)), (7, .p (i64 n)), (15, .own 87 0 L 1), (91, .p (.sl 3 1 (fun j => u64s (partOf low mid high j)))), (92, .p (i64 (3 : Nat))), (93, .p (i64 i))]) (fun i => [(87, ob64 (stage p low mid high n L i))]) (fun i => 3 - i) 0
      (Nat.zero_le _) (wk1 _ rfl (Nat.le_refl _) (fun hr j _ => le_refl hr _) (fun hd => ⟨le_refl hd _, le_refl hd _, le_o rfl, le_freeze (i := 91) (off := 0) hd rfl (Nat.le_refl 3) (fun k hk => ?_) (fun j hj => ?_), le_refl hd _, le_refl hd _, trivial⟩)) ?_)
    · have := hOf_mem k hk
      simp at this
      show k ≠ 91
      omega
    · match j, hj with
      | 0, _ => exact le_refl hd _
      | 1, _ => exact le_refl hd _
      | 2, _ => exact le_refl hd _
    rintro i h1
    refine ev_rs [] rfl trivial (ev_seq (ev_cond rfl (fun h => ev_sk ?_) (fun h => ev_exit ?_)))
    · have hi : i < 3 := Int.ofNat_lt.mp (of_decide_eq_true h)
      obtain ⟨part, hpart⟩ : ∃ part, partOf low mid high i = part := ⟨_, rfl⟩
      have hb := hbnd i hi
      have hsl := length_stage p low mid high n L i
      have hst : stage p low mid high n L (i + 1) = accK p (partOf low mid high i) (i * n) (stage p low mid high n L i) (partOf low mid high i).length := rfl
      have hpl : (partOf low mid high i).length < 1000000 := by
        rcases Nat.eq_zero_or_pos (partOf low mid high i).length with h | h
        · omega
        · have := hb ((partOf low mid high i).length - 1) (by omega)
          omega
      have hin : i * n < 1000000 := by
        have : i * n ≤ 2 * n := Nat.mul_le_mul_right _ (by omega)
        omega
      rw [hpart] at hb hst hpl
      refine ev_seq (ev_block ?_)
      refine ev_rs [] rfl ⟨hi, ⟨by omega, by omega⟩, trivial⟩ (ev_eq 17 (.p (u64s part)) (congrArg (fun l => AV.p (u64s l)) hpart) ?_)
      refine ev_rs [] rfl trivial ?_
      refine ev_block (ev_while (α := Nat) (fun k => k ≤ part.length) (fun k => [(0, .p (polyF p)), (7, .p (i64 n)), (15, .own 87 0 L 1), (16, .p (i64 i)), (91, .p (.sl 3 1 (fun j => u64s (partOf low mid high j)))), (92, .p (i64 (3 : Nat))), (93, .p (i64 i)), (98, .p (u64s part)), (99, .p (i64 part.length)), (100, .p (i64 k))])
        (fun k => [(87, ob64 (accK p part (i * n) (stage p low mid high n L i) k))]) (fun k => part.length - k) 0
        (Nat.zero_le _) (wk_ob rfl (fun hd => ⟨le_refl hd _, le_refl hd _, le_o rfl, le_refl hd _, le_refl hd _, le_refl hd _, le_refl hd _, le_refl hd _, le_refl hd _, le_refl hd _, trivial⟩)) ?_)
      rintro k h2
      refine ev_rs [] rfl trivial (ev_seq (ev_cond rfl (fun h => ev_sk ?_) (fun h => ev_exit ?_)))
      · have hk : k < part.length := Int.ofNat_lt.mp (of_decide_eq_true h)
        have hbk := hb k hk
        obtain ⟨o, ho⟩ : ∃ o, accK p part (i * n) (stage p low mid high n L i) k = o := ⟨_, rfl⟩
        have hol : o.length = L := by rw [← ho, length_accK, hsl]
        have e3 : IntKind.wrap .i64 (IntKind.wrap .i64 ((i : Int) * (n : Int)) + (k : Int)) = ((i * n + k : Nat) : Int) := by
          rw [← Int.natCast_mul, wrapI ((i * n : Nat) : Int) (by omega) (by omega), wrapI _ (by omega) (by omega)]; omega
        refine ev_seq (ev_block ?_)
        refine ev_ob 87 (ob64 o) (congrArg (fun l => some (ob64 l)) ho) ?_
        refine ev_rs [] rfl ⟨hk, ⟨by omega, by omega⟩, trivial⟩ ?_
        refine ev_rs [] rfl trivial (ev_cond rfl (fun h => ?_) (fun h => ?_))
        · have hne : part.getD k 0 ≠ 0 := fun e => (bne_iff_ne.mp h) (Int.ofNat_inj.mpr e)
          have hsk : accK p part (i * n) (stage p low mid high n L i) (k + 1) = o.set (i * n + k) ((o.getD (i * n + k) 0 + part.getD k 0) % p) := by rw [← ho]; exact if_neg hne
          refine ev_draw [u64 ((o.getD (i * n + k) 0 + part.getD k 0) % p)] (by kernel_rfl) rfl rfl ?_ ?_
          · rw [e3]
            exact ⟨(by omega : i * n + k + 1 ≤ o.length), ⟨by omega, by omega⟩, .inl (Add_spec hm _ _), (by omega : i * n + k < o.length), ⟨by omega, by omega⟩, Nat.zero_lt_one, trivial⟩
          refine ev_set 87 (i * n + k) ((o.getD (i * n + k) 0 + part.getD k 0) % p) rfl (by show (IntKind.wrap .i64 (IntKind.wrap .i64 ((i : Int) * (n : Int)) + (k : Int))).toNat = _; rw [e3]; rfl) rfl (by omega) ?_
          exact ev_region [] rfl trivial ⟨k + 1, hk, by dsimp only; omega, wk_ob (congrArg (fun l => some (ob64 l)) hsk.symm) (fun hd => ⟨le_refl hd _, le_refl hd _, le_o rfl, le_refl hd _, le_refl hd _, le_refl hd _, le_refl hd _, le_refl hd _, le_refl hd _, le_n hd (congrArg (fun z => PV.val (.int .i64 z)) (wrapI _ (by omega) (by omega))), trivial⟩)⟩
        · have heq : part.getD k 0 = 0 := Int.ofNat_inj.mp (bne_eq_false_iff_eq.mp h)
          have hsk : accK p part (i * n) (stage p low mid high n L i) (k + 1) = o := by rw [← ho]; exact if_pos heq
          refine ev_skip ?_
          exact ev_region [] rfl trivial ⟨k + 1, hk, by dsimp only; omega, wk_ob (congrArg (fun l => some (ob64 l)) hsk.symm) (fun hd => ⟨le_refl hd _, le_refl hd _, le_o rfl, le_refl hd _, le_refl hd _, le_refl hd _, le_refl hd _, le_refl hd _, le_refl hd _, le_n hd (congrArg (fun z => PV.val (.int .i64 z)) (wrapI _ (by omega) (by omega))), trivial⟩)⟩
      · have hk : k = part.length := by
          have := of_decide_eq_false h
          omega
        subst hk
        exact ev_region [] rfl trivial ⟨i + 1, hi, by dsimp only; omega, wk_ob (congrArg (fun l => some (ob64 l)) hst.symm) (fun hd => ⟨le_refl hd _, le_refl hd _, le_o rfl, le_refl hd _, le_refl hd _, le_n hd (congrArg (fun z => PV.val (.int .i64 z)) (wrapI _ (by omega) (by omega))), trivial⟩)⟩
    · have hi : i = 3 := by
        have := of_decide_eq_false h
        omega
      subst hi
      exact at_ob () trivial rfl (fun hd => ⟨le_o rfl, trivial⟩)
  rintro ⟨⟩ -
  exact ev_rs [] rfl trivial (ev_ret (ret1 (fz_ob' rfl (length_stage p low mid high n L 3).symm rfl)))

theorem half_spec' {p : Nat} (hm : MayM p) (a b : List Nat) (hl : a.length < 50000) (hl2 : b.length < 50000) : CallSpec Tryz.pr.P Tryz.pr.G 34 [polyF p, u64s a, u64s b] (u64s (oneN p a b)) := half_all hm _ a b (Nat.le_refl _) (by omega)

theorem times_all {p : Nat} (hm : MayM p) (a b : List Nat) (hl : a.length < 50000) (hl2 : b.length < 50000) : CallSpec Tryz.pr.P Tryz.pr.G 44 [polyF p, u64s a, u64s b] (u64s (timesN p a b)) := by
  refine callSpec_of Tryz.pr Tryz.func44 rfl rfl rfl fun w0 ok0 hok hG => ?_
  refine ev_rs [] rfl trivial ?_
  have := length_oneN p a b
  exact ev_rs [u64s (oneN p a b), u64s (timesN p a b)] rfl ⟨.inl (trim_spec _ (by omega)), .inl (half_spec' hm a b hl hl2), trivial⟩ (ev_ret (ret1 (fz_p (PLe.refl _))))

end Go.Proofs

/- The reference of upoly, walked. -/
set_option linter.unusedVariables false
namespace Go.Proofs
open Go Vinc Vinc.Num

theorem tabL_scale (p : Nat) (a : List Nat) (x : Nat) : tabL (fun i => a.getD i 0 * x % p) a.length = scaleL p a x := by
  refine list_eq (by simp [tabL, scaleL]) fun j hj => ?_
  have hj : j < a.length := by simpa [tabL] using hj
  rw [getD_tabL, if_pos hj]
  unfold scaleL
  simp [List.getD_eq_getElem?_getD, hj]

theorem tabL_map (p : Nat) (a : List Nat) : tabL (fun i => a.getD i 0 % p) a.length = a.map (· % p) := by
  refine list_eq (by simp [tabL]) fun j hj => ?_
  have hj : j < a.length := by simpa [tabL] using hj
  rw [getD_tabL, if_pos hj]
  simp [List.getD_eq_getElem?_getD, hj]

theorem length_tabL (f : Nat → Nat) (n : Nat) : (tabL f n).length = n := by simp [tabL]

theorem RNorm_spec {p : Nat} (hm : MayM p) (a : List Nat) (hl : a.length < 1000000) : CallSpec Tryz.pr.P Tryz.pr.G 36 [u64s a, u64 p] (u64s (normN p a)) := by
  have hp0 := hm.1
  obtain ⟨ms, hms⟩ : ∃ ms, a.map (· % p) = ms := ⟨_, rfl⟩
  have hml : ms.length = a.length := by rw [← hms, List.length_map]
  obtain ⟨f, hf⟩ : ∃ f : Nat → Nat, f = fun i => a.getD i 0 % p := ⟨_, rfl⟩
  have hall : tabL f a.length = ms := by rw [hf, tabL_map, hms]
  have hN : normN p a = ms.take (trimL ms ms.length) := by unfold normN trimN; rw [hms]
  rw [hN]
  refine callSpec_of Tryz.pr Tryz.func36 rfl rfl rfl fun w0 ok0 hok hG => ?_
  refine ev_rs [] rfl trivial ?_
  refine ev_rs [] rfl trivial (ev_nilown 5 5 rfl rfl ?_)
  refine ev_at (α := Unit) (fun _ => True) (fun _ => [(5, .p (u64s ms))]) (fun _ => []) ?_ ?_
  · refine ev_rs [] rfl trivial ?_
    refine ev_block (ev_while (α := Nat) (fun i => i ≤ a.length) (fun i => [(0, .p (u64s a)), (1, .p (u64 p)), (5, .own 5 0 i 1), (6, .p (i64 i))]) (fun i => [(5, ob64 (tabL f i))]) (fun i => a.length - i) 0
      (Nat.zero_le _) (wk_ob rfl (fun hd => ⟨le_refl hd _, le_refl hd _, le_o rfl, le_refl hd _, trivial⟩)) ?_)
    rintro i h1
    refine ev_seq (ev_rs [] rfl trivial (ev_cond rfl (fun h => ev_sk ?_) (fun h => ev_exit ?_)))
    · have hi : i < a.length := Int.ofNat_lt.mp (of_decide_eq_true h)
      have htl := length_tabL f i
      have hfi : f i = a.getD i 0 % p := by rw [hf]
      refine ev_seq (ev_block ?_)
      refine ev_region [] rfl ?_ (ev_app 5 21 (tabL f i) [f i] rfl rfl (by rw [htl]; rfl) (by show i + 1 = _; rw [htl]; rfl) htl.symm (fun j hj => rfl) (fun j hj => ?_) ?_)
      · exact ⟨⟨by omega, htl, Nat.le_refl 1⟩, by simp; omega, hi, ⟨by omega, by omega⟩, trivial⟩
      · match j, hj with
        | 0, _ => rw [hfi]; rfl
      have hst : tabL f i ++ [f i] = tabL f (i + 1) := (tabL_snoc f i).symm
      exact ev_region [] rfl trivial ⟨i + 1, hi, by dsimp only; omega, wk_ren (i' := 21) (congrArg (fun l => some (ob64 l)) hst) (fun hd => ⟨le_refl hd _, le_refl hd _, le_ren rfl (by rw [hst, length_tabL]), le_n hd (congrArg (fun z => PV.val (.int .i64 z)) (wrapI _ (by omega) (by omega))), trivial⟩)⟩
    · have hi : i = a.length := by
        have := of_decide_eq_false h
        omega
      subst hi
      exact at0 () trivial ⟨le_fz' rfl (length_tabL f a.length).symm hall, trivial⟩
  rintro ⟨⟩ -
  have ht := trimL_le ms ms.length
  refine ev_at (α := Unit) (fun _ => True) (fun _ => [(5, .p (.sl (trimL ms ms.length) 1 (fun j => u64 (ms.getD j 0))))]) (fun _ => []) ?_ ?_
  · refine ev_block (ev_while0 (α := Nat) (fun n => n ≤ ms.length ∧ trimL ms n = trimL ms ms.length) (fun n => [(5, .p (.sl n 1 (fun j => u64 (ms.getD j 0))))]) (fun n => n) ms.length ⟨Nat.le_refl _, rfl⟩ ⟨le_0, trivial⟩ ?_)
    rintro n ⟨h1, h2⟩
    cases n with
    | zero =>
      exact ev_seq (ev_rs [] rfl (by repeat' (first | exact trivial | exact gd_t | exact gd_f | exact fun h => absurd h (by decide) | exact (fun _ => rfl) | intro _ | apply And.intro | assumption | exact rfl | exact gd_t (by assumption) | exact gd_f (by assumption) | exact gd_a (by assumption) (by assumption) | exact gd_b (by assumption) (by assumption))) (ev_cf rfl (ev_exit (at0 () trivial ⟨le_e (congrArg (fun z : Nat => PV.sl z 1 (fun j => u64 (ms.getD j 0))) h2), trivial⟩))))
    | succ n =>
      have e1 : IntKind.wrap .i64 (((n + 1 : Nat) : Int) - 1) = (n : Int) := by rw [wrapI _ (by omega) (by omega)]; omega
      have hpos : decide (((n + 1 : Nat) : Int) > 0) = true := decide_eq_true (by omega)
      have hn1 : n < n + 1 := Nat.lt_succ_self n
      refine ev_seq (ev_rs [] rfl ?_ (ev_cond rfl (fun h => ev_sk ?_) (fun h => ev_exit ?_)))
      · rw [e1]
        exact (by repeat' (first | exact trivial | exact gd_t | exact gd_f | exact hn1 | exact Int.natCast_nonneg _ | exact Int.ofNat_lt.mpr hn1 | exact (fun _ => rfl) | intro _ | apply And.intro | assumption | exact rfl | exact gd_t (by assumption) | exact gd_f (by assumption) | exact gd_a (by assumption) (by assumption) | exact gd_b (by assumption) (by assumption)))
      · rw [hpos, e1] at h
        have h0 : ms.getD n 0 = 0 := Int.ofNat_inj.mp (beq_iff_eq.mp h)
        refine ev_block (ev_region [] rfl ?_ (round0 n ⟨by omega, ?_⟩ (Nat.lt_succ_self n) ⟨le_e (congrArg (fun z : Int => PV.sl z.toNat 1 (fun j => u64 (ms.getD j 0))) e1), trivial⟩))
        · rw [e1]
          exact ⟨⟨by omega, by omega⟩, trivial⟩
        rw [← h2]
        show _ = if ms.getD n 0 = 0 then trimL ms n else n + 1
        rw [if_pos h0]
      · rw [hpos, e1] at h
        have h0 : ¬ ms.getD n 0 = 0 := fun e => (beq_eq_false_iff_ne.mp h) (Int.ofNat_inj.mpr e)
        refine at0 () trivial ⟨le_e (congrArg (fun z : Nat => PV.sl z 1 (fun j => u64 (ms.getD j 0))) ?_), trivial⟩
        rw [← h2]
        show _ = if ms.getD n 0 = 0 then trimL ms n else n + 1
        rw [if_neg h0]
  rintro ⟨⟩ -
  exact ev_rs [] rfl trivial (ev_ret (ret1 (fz_p (PLe.take ht))))

theorem length_normN (p : Nat) (a : List Nat) : (normN p a).length ≤ a.length := by
  unfold normN
  rw [length_trimN]
  have := trimL_le (a.map (· % p)) (a.map (· % p)).length
  rw [List.length_map] at this ⊢
  exact this

theorem length_rAdd (p : Nat) (a b : List Nat) : (rAdd p a b).length ≤ max a.length b.length := by
  have := length_normN p (addL p a b)
  rwa [length_addL] at this

theorem length_rSub (p : Nat) (a b : List Nat) : (rSub p a b).length ≤ max a.length b.length := by
  have h1 := length_rAdd p a (rScale p b (p - 1))
  have h2 := length_normN p (scaleL p b (p - 1))
  rw [length_scaleL] at h2
  have h1 : (rSub p a b).length ≤ max a.length (rScale p b (p - 1)).length := h1
  have h2 : (rScale p b (p - 1)).length ≤ b.length := h2
  omega

def W64 (xs : List Nat) : Prop := ∀ j, xs.getD j 0 < 18446744073709551616

theorem Mul06_spec {p : Nat} (hm : MayM p) (a b : List Nat) (hl : a.length < 100000) (hl2 : b.length < 100000) (hw : W64 b) : CallSpec Tryz.pr.P Tryz.pr.G 37 [u64s a, u64s b, u64 p] (u64s (oneN p a b)) := by
  refine callSpec_of Tryz.pr Tryz.func37 rfl rfl rfl fun w0 ok0 hok hG => ?_
  refine ev_rs [] rfl trivial ?_
  refine ev_seq (ev_rs [] rfl (by repeat' (first | exact trivial | exact gd_t | exact gd_f | exact (fun _ => rfl) | intro _ | apply And.intro | assumption | exact rfl | exact gd_t (by assumption) | exact gd_f (by assumption) | exact gd_a (by assumption) (by assumption) | exact gd_b (by assumption) (by assumption))) (ev_cond rfl (fun h => ?_) (fun h => ev_sk ?_)))
  · have h0 : a.length = 0 ∨ b.length = 0 := by
      by_cases ha : a.length = 0
      · exact .inl ha
      · right
        have e : (((a.length : Nat) : Int) == 0) = false := beq_eq_false_iff_ne.mpr (by omega)
        rw [e] at h
        exact Int.ofNat_inj.mp (beq_iff_eq.mp h)
    have e : oneN p a b = [] := if_pos h0
    rw [e]
    exact ev_rs [] rfl trivial (ev_ret (ret1 (fz_p PLe.nil)))
  have h0 : ¬ (a.length = 0 ∨ b.length = 0) := by
    rintro (e | e)
    · rw [e] at h; cases h
    · rw [e] at h
      cases hd : (((a.length : Nat) : Int) == 0) <;> rw [hd] at h <;> cases h
  have e0 : oneN p a b = oneO p a b a.length := if_neg h0
  rw [e0]
  have e1 : IntKind.wrap .i64 (IntKind.wrap .i64 ((a.length : Int) + (b.length : Int)) - 1) = ((a.length + b.length - 1 : Nat) : Int) := by
    rw [wrapI ((a.length : Int) + (b.length : Int)) (by omega) (by omega), wrapI _ (by omega) (by omega)]; omega
  obtain ⟨L, hL⟩ : ∃ L, a.length + b.length - 1 = L := ⟨_, rfl⟩
  refine ev_rs [] rfl ?_ ?_
  · rw [e1]
    exact ⟨⟨by omega, by omega, by omega⟩, trivial⟩
  refine ev_made 7 24 L rfl rfl (show (IntKind.wrap .i64 (IntKind.wrap .i64 ((a.length : Int) + (b.length : Int)) - 1)).toNat = _ by rw [e1]; exact hL) ?_
  refine ev_at (α := Unit) (fun _ => True) (fun _ => [(7, .own 24 0 L 1)]) (fun _ => [(24, ob64 (oneO p a b a.length))]) ?_ ?_
  · refine ev_rs [] rfl trivial ?_
    refine ev_block (ev_while (α := Nat) (fun i => i ≤ a.length) (fun i => [(0, .p (u64s a)), (1, .p (u64s b)), (2, .p (u64 p)), (7, .own 24 0 L 1), (8, .p (i64 i))]) (fun i => [(24, ob64 (oneO p a b i))]) (fun i => a.length - i) 0
      (Nat.zero_le _) (wk_ob (congrArg (fun l => some (ob64 (List.replicate l 0))) hL.symm) (fun hd => ⟨le_refl hd _, le_refl hd _, le_refl hd _, le_o rfl, le_refl hd _, trivial⟩)) ?_)
    rintro i h1
    refine ev_seq (ev_rs [] rfl trivial (ev_cond rfl (fun h => ev_sk ?_) (fun h => ev_exit ?_)))
    · have hi : i < a.length := Int.ofNat_lt.mp (of_decide_eq_true h)
      refine ev_seq (ev_block ?_)
      refine ev_rs [] rfl trivial ?_
      refine ev_block (ev_while (α := Nat) (fun k => k ≤ b.length) (fun k => [(0, .p (u64s a)), (1, .p (u64s b)), (2, .p (u64 p)), (7, .own 24 0 L 1), (8, .p (i64 i)), (9, .p (i64 k))])
        (fun k => [(24, ob64 (oneI p (a.getD i 0) b i (oneO p a b i) k))]) (fun k => b.length - k) 0
        (Nat.zero_le _) (wk_ob rfl (fun hd => ⟨le_refl hd _, le_refl hd _, le_refl hd _, le_o rfl, le_refl hd _, le_refl hd _, trivial⟩)) ?_)
      rintro k h2
      refine ev_seq (ev_rs [] rfl trivial (ev_cond rfl (fun h => ev_sk ?_) (fun h => ev_exit ?_)))
      · have hk : k < b.length := Int.ofNat_lt.mp (of_decide_eq_true h)
        refine ev_seq (ev_block ?_)
        have e2 : IntKind.wrap .i64 ((i : Int) + (k : Int)) = ((i + k : Nat) : Int) := by rw [wrapI _ (by omega) (by omega)]; rfl
        have hck : (oneI p (a.getD i 0) b i (oneO p a b i) k).length = L := by rw [length_oneI, length_oneO, hL]
        obtain ⟨o, ho⟩ : ∃ o, oneI p (a.getD i 0) b i (oneO p a b i) k = o := ⟨_, rfl⟩
        have hst : oneI p (a.getD i 0) b i (oneO p a b i) (k + 1) = o.set (i + k) ((o.getD (i + k) 0 + a.getD i 0 * b.getD k 0 % p) % p) := by rw [← ho]; rfl
        rw [ho] at hck
        refine ev_ob 24 (ob64 o) (congrArg (fun l => some (ob64 l)) ho) ?_
        refine ev_draw [u64 (a.getD i 0 * b.getD k 0 % p), u64 ((o.getD (i + k) 0 + a.getD i 0 * b.getD k 0 % p) % p)] (by kernel_rfl) rfl rfl ?_ ?_
        · rw [e2]
          exact ⟨(by omega : i + k + 1 ≤ o.length), ⟨by omega, by omega⟩, .inl (RefAdd_spec hm _ _), .inl (RefMul_spec hm _ _ (hw k)), hk, ⟨by omega, by omega⟩, hi, ⟨by omega, by omega⟩, (by omega : i + k < o.length), ⟨by omega, by omega⟩, trivial⟩
        refine ev_set 24 (i + k) ((o.getD (i + k) 0 + a.getD i 0 * b.getD k 0 % p) % p) rfl (by show (IntKind.wrap .i64 ((i : Int) + (k : Int))).toNat = _; rw [e2]; rfl) rfl (by omega) ?_
        exact ev_region [] rfl trivial ⟨k + 1, hk, by dsimp only; omega, wk_ob (congrArg (fun l => some (ob64 l)) hst.symm) (fun hd => ⟨le_refl hd _, le_refl hd _, le_refl hd _, le_o rfl, le_refl hd _, le_n hd (congrArg (fun z => PV.val (.int .i64 z)) (wrapI _ (by omega) (by omega))), trivial⟩)⟩
      · have hk : k = b.length := by
          have := of_decide_eq_false h
          omega
        subst hk
        exact ev_region [] rfl trivial ⟨i + 1, hi, by dsimp only; omega, wk_ob rfl (fun hd => ⟨le_refl hd _, le_refl hd _, le_refl hd _, le_o rfl, le_n hd (congrArg (fun z => PV.val (.int .i64 z)) (wrapI _ (by omega) (by omega))), trivial⟩)⟩
    · have hi : i = a.length := by
        have := of_decide_eq_false h
        omega
      subst hi
      exact at_ob () trivial rfl (fun hd => ⟨le_o rfl, trivial⟩)
  rintro ⟨⟩ -
  exact ev_rs [] rfl trivial (ev_ret (ret1 (fz_ob' rfl (by rw [length_oneO, hL]) rfl)))

theorem RMul_spec {p : Nat} (hm : MayM p) (a b : List Nat) (hl : a.length < 100000) (hl2 : b.length < 100000) (hw : W64 b) : CallSpec Tryz.pr.P Tryz.pr.G 14 [u64s a, u64s b, u64 p] (u64s (rMul p a b)) := by
  refine callSpec_of Tryz.pr Tryz.func14 rfl rfl rfl fun w0 ok0 hok hG => ?_
  refine ev_rs [] rfl trivial ?_
  have := length_oneN p a b
  exact ev_rs [u64s (oneN p a b), u64s (rMul p a b)] rfl ⟨.inl (RNorm_spec hm (oneN p a b) (by omega)), .inl (Mul06_spec hm a b hl hl2 hw), trivial⟩ (ev_ret (ret1 (fz_p (PLe.refl _))))

theorem nz_w64 {p : Nat} (hm : MayM p) {a : List Nat} (h : Nz p a) : W64 a := fun j => by
  have h1 := h.lt j
  have h2 := hm.2
  omega

theorem length_term (d c : Nat) : (term d c).length = d + 1 := by simp [term]

end Go.Proofs

/- Polynomials over a field of words, walked: division, derivatives, values, divisors. -/
set_option linter.unusedVariables false
namespace Go.Proofs
open Go Vinc Vinc.Num

theorem minv_lt {m : Nat} (hm : 0 < m) (x : Nat) : minv m x < m := by
  unfold minv
  split
  · rename_i h; exact (Classical.choose_spec h).1
  · exact hm

theorem asked_fd {p : Nat} (h : Asked p) : FdP p (minv p) := by
  have hm := asked_may h
  refine ⟨asked_prime h, fun x hx => ?_, minv_lt (by have := hm.1; omega)⟩
  have hg : Nat.gcd x p = 1 := by
    rw [Nat.gcd_comm]
    exact (asked_prime h).coprime fun hd => hx (Nat.mod_eq_zero_of_dvd hd)
  rw [(minv_spec hm.1 hg).2, Nat.mod_eq_of_lt hm.1]

theorem UP_spec {p : Nat} : CallSpec Tryz.pr.P Tryz.pr.G 26 [polyF p] (u64 p) := by
  refine callSpec_of Tryz.pr Tryz.func26 rfl rfl rfl fun w0 ok0 hok hG => ?_
  refine ev_rs [] rfl trivial ?_
  refine ev_seq (ev_rs [] rfl trivial (ev_cf rfl (ev_sk ?_)))
  exact ev_rs [u64 p] rfl ⟨.inl M_spec, Nat.zero_lt_one, trivial⟩ (ev_ret (ret1 (fz_p (PLe.refl _))))

theorem DivM_zero {p : Nat} (hm : MayM p) (a b : List Nat) (hl : a.length < 100000) (hl2 : b.length < 100000) (hb0 : (normN p b).length = 0) :
    CallSpec Tryz.pr.P Tryz.pr.G 17 [polyF p, u64s a, u64s b] (.tup 3 (three nilS nilS (i64 10))) := by
  refine callSpec_of Tryz.pr Tryz.func17 rfl rfl rfl fun w0 ok0 hok hG => ?_
  refine ev_rs [] rfl trivial ?_
  refine ev_seq (ev_rs [] rfl trivial (ev_cf rfl (ev_sk ?_)))
  refine ev_rs [u64s (normN p a), u64s (normN p b)] rfl ⟨.inl (Norm_spec hm b (by omega)), .inl (Norm_spec hm a (by omega)), trivial⟩ ?_
  refine ev_seq (ev_rs [] rfl trivial (ev_cond rfl (fun h => ?_) (fun h => ?_)))
  · exact ev_rs [] rfl trivial (ev_ret (ret3 (fz_p (PLe.refl _)) (fz_p (PLe.refl _)) (fz_p (PLe.refl _))))
  · exact absurd (congrArg (fun n : Nat => (n : Int)) hb0) (beq_eq_false_iff_ne.mp h)

theorem DivM_ok {p : Nat} (hm : MayM p) (a b : List Nat) (hl : a.length < 100000) (hl2 : b.length < 100000) (hb0 : 0 < (normN p b).length) :
    CallSpec Tryz.pr.P Tryz.pr.G 17 [polyF p, u64s a, u64s b] (.tup 3 (three (u64s (divN (minv p) p (normN p a) (normN p b)).1) (u64s (divN (minv p) p (normN p a) (normN p b)).2) (i64 0))) := by
  have la := length_normN p a
  have lb := length_normN p b
  refine callSpec_of Tryz.pr Tryz.func17 rfl rfl rfl fun w0 ok0 hok hG => ?_
  refine ev_rs [] rfl trivial ?_
  refine ev_seq (ev_rs [] rfl trivial (ev_cf rfl (ev_sk ?_)))
  refine ev_rs [u64s (normN p a), u64s (normN p b)] rfl ⟨.inl (Norm_spec hm b (by omega)), .inl (Norm_spec hm a (by omega)), trivial⟩ ?_
  refine ev_seq (ev_rs [] rfl trivial (ev_cond rfl (fun h => ?_) (fun h => ev_sk ?_)))
  · exfalso
    have : (normN p b).length = 0 := Int.ofNat_inj.mp (beq_iff_eq.mp h)
    omega
  refine ev_rs [.tup 2 (two (u64s (divN (minv p) p (normN p a) (normN p b)).1) (u64s (divN (minv p) p (normN p a) (normN p b)).2))] rfl ⟨.inl (divide_spec hm _ _ hb0 (by omega) (by omega)), trivial⟩ ?_
  exact ev_rs [] rfl trivial (ev_ret (ret3 (fz_p (PLe.refl _)) (fz_p (PLe.refl _)) (fz_p (PLe.refl _))))

theorem Deg_spec {p : Nat} (hm : MayM p) (a : List Nat) (hl : a.length < 100000) : CallSpec Tryz.pr.P Tryz.pr.G 16 [polyF p, u64s a] (i64 (((normN p a).length : Int) - 1)) := by
  have la := length_normN p a
  refine callSpec_of Tryz.pr Tryz.func16 rfl rfl rfl fun w0 ok0 hok hG => ?_
  refine ev_rs [] rfl trivial ?_
  refine ev_seq (ev_rs [] rfl trivial (ev_cf rfl (ev_sk ?_)))
  exact ev_rs [u64s (normN p a)] rfl ⟨.inl (Norm_spec hm a (by omega)), trivial⟩ (ev_ret (ret1 (fz_p (PLe.of_eq (congrArg (fun z => PV.val (.int .i64 z)) (wrapI _ (by omega) (by omega)))))))

theorem scale_spec {p : Nat} (hm : MayM p) (a : List Nat) (x : Nat) (hl : a.length < 100000) : CallSpec Tryz.pr.P Tryz.pr.G 45 [polyF p, u64s a, u64 x] (u64s (trimN (scaleL p a x))) := by
  obtain ⟨f, hf⟩ : ∃ f : Nat → Nat, f = fun i => a.getD i 0 * x % p := ⟨_, rfl⟩
  have hall : tabK f a.length a.length = scaleL p a x := by rw [tabK_all, hf]; exact tabL_scale p a x
  refine callSpec_of Tryz.pr Tryz.func45 rfl rfl rfl fun w0 ok0 hok hG => ?_
  refine ev_rs [] rfl trivial ?_
  refine ev_rs [] rfl ⟨⟨by omega, by omega, by omega⟩, trivial⟩ ?_
  refine ev_made 7 12 a.length rfl rfl rfl ?_
  refine ev_at (α := Unit) (fun _ => True) (fun _ => [(7, .p (u64s (scaleL p a x)))]) (fun _ => []) ?_ ?_
  · refine ev_rs [] rfl trivial ?_
    refine ev_block (ev_while (α := Nat) (fun i => i ≤ a.length) (fun i => [(0, .p (polyF p)), (2, .p (u64 x)), (7, .own 12 0 a.length 1), (13, .p (u64s a)), (14, .p (i64 a.length)), (15, .p (i64 i))]) (fun i => [(12, ob64 (tabK f a.length i))]) (fun i => a.length - i) 0
      (Nat.zero_le _) (wk_ob rfl (fun hd => ⟨le_refl hd _, le_refl hd _, le_o rfl, le_refl hd _, le_refl hd _, le_refl hd _, trivial⟩)) ?_)
    rintro i h1
    refine ev_rs [] rfl trivial (ev_seq (ev_cond rfl (fun h => ev_sk ?_) (fun h => ev_exit ?_)))
    · have hi : i < a.length := Int.ofNat_lt.mp (of_decide_eq_true h)
      have hck := length_tabK f a.length i
      have hfi : f i = a.getD i 0 * x % p := by rw [hf]
      refine ev_seq (ev_block ?_)
      refine ev_rs [] rfl ⟨hi, ⟨by omega, by omega⟩, trivial⟩ ?_
      refine ev_region [u64 (f i)] rfl ?_ ?_
      · rw [hfi]
        exact ⟨(by omega : i + 1 ≤ (tabK f a.length i).length), ⟨by omega, by omega⟩, .inl (Mul_spec hm _ _), Nat.zero_lt_one, trivial⟩
      refine ev_set 12 i (f i) rfl rfl rfl (by omega) ?_
      exact ev_region [] rfl trivial ⟨i + 1, hi, by dsimp only; omega, wk_ob rfl (fun hd => ⟨le_refl hd _, le_refl hd _, le_o rfl, le_refl hd _, le_refl hd _, le_n hd (congrArg (fun z => PV.val (.int .i64 z)) (wrapI _ (by omega) (by omega))), trivial⟩)⟩
    · have hi : i = a.length := by
        have := of_decide_eq_false h
        omega
      subst hi
      exact at0 () trivial ⟨le_fz' rfl (length_tabK f a.length a.length).symm hall, trivial⟩
  rintro ⟨⟩ -
  exact ev_rs [u64s (trimN (scaleL p a x))] rfl ⟨.inl (trim_spec _ (by rw [length_scaleL]; omega)), trivial⟩ (ev_ret (ret1 (fz_p (PLe.refl _))))

theorem Monic_spec {p : Nat} (hm : MayM p) (a : List Nat) (hl : a.length < 100000) : CallSpec Tryz.pr.P Tryz.pr.G 29 [polyF p, u64s a] (u64s (monicF (minv p) p (normN p a))) := by
  have la := length_normN p a
  have hN := Norm_spec hm a (by omega)
  generalize normN p a = na at *
  refine callSpec_of Tryz.pr Tryz.func29 rfl rfl rfl fun w0 ok0 hok hG => ?_
  refine ev_rs [] rfl trivial ?_
  refine ev_rs [u64s na] rfl ⟨.inl hN, trivial⟩ ?_
  refine ev_seq (ev_rs [] rfl trivial (ev_cond rfl (fun h => ?_) (fun h => ev_sk ?_)))
  · have h0 : na.length = 0 := Int.ofNat_inj.mp (beq_iff_eq.mp h)
    have e : na = [] := List.eq_nil_of_length_eq_zero h0
    rw [e]
    exact ev_rs [] rfl trivial (ev_ret (ret1 (fz_p PLe.nil)))
  have h0 : 0 < na.length := Nat.pos_of_ne_zero fun e => (beq_eq_false_iff_ne.mp h) (congrArg (fun n : Nat => (n : Int)) e)
  have e1 : IntKind.wrap .i64 ((na.length : Int) - 1) = ((na.length - 1 : Nat) : Int) := by rw [wrapI _ (by omega) (by omega)]; omega
  refine ev_ds [.tup 2 (two (u64 (minv p (na.getD (na.length - 1) 0))) (i64 (wrong (na.getD (na.length - 1) 0) p)))] (by kernel_rfl) rfl rfl ?_ ?_
  · rw [e1]
    exact ⟨.inl (Inv_spec hm _), (by omega : na.length - 1 < na.length), ⟨by omega, by omega⟩, Nat.zero_lt_one, trivial⟩
  exact ev_rs [u64s (monicF (minv p) p na)] rfl ⟨.inl (scale_spec hm na _ (by omega)), trivial⟩ (ev_ret (ret1 (fz_p (PLe.refl _))))

theorem Gcd_spec {p : Nat} (hm : MayM p) (hf : FdP p (minv p)) (a b : List Nat) (hl : a.length < 10000) (hl2 : b.length < 10000) : CallSpec Tryz.pr.P Tryz.pr.G 28 [polyF p, u64s a, u64s b] (u64s (gcdN (minv p) p a b)) := by
  have hp0 : 0 < p := hf.pos
  have la := length_normN p a
  have lb := length_normN p b
  have ha := Nz.norm hp0 a
  have hb := Nz.norm hp0 b
  have hNa := Norm_spec hm a (by omega)
  have hNb := Norm_spec hm b (by omega)
  obtain ⟨R, hR⟩ : ∃ R, gcdF (minv p) p ((normN p b).length + 1) (normN p a) (normN p b) = R := ⟨_, rfl⟩
  have hRz : Nz p R := hR ▸ gcdF_nz hf _ _ _ ha hb
  have hRl : R.length < 10000 := by
    have := gcdF_len hf ((normN p b).length + 1) (normN p a) (normN p b) 9999 ha hb (by omega) (by omega)
    rw [hR] at this
    omega
  have hG1 : gcdN (minv p) p a b = monicF (minv p) p (normN p R) := by unfold gcdN; rw [hR, hRz.norm_id hp0]
  rw [hG1]
  generalize normN p a = na at *
  generalize normN p b = nb at *
  refine callSpec_of Tryz.pr Tryz.func28 rfl rfl rfl fun w0 ok0 hok hG => ?_
  refine ev_rs [] rfl trivial ?_
  refine ev_seq (ev_rs [] rfl trivial (ev_cf rfl (ev_sk ?_)))
  refine ev_rs [u64s na, u64s nb] rfl ⟨.inl hNb, .inl hNa, trivial⟩ ?_
  refine ev_at (α := Unit) (fun _ => True) (fun _ => [(0, .p (polyF p)), (1, .p (u64s R))]) (fun _ => []) ?_ ?_
  · refine ev_block (ev_while0 (α := Nat × List Nat × List Nat) (fun s => s.2.2.length ≤ s.1 ∧ Nz p s.2.1 ∧ Nz p s.2.2 ∧ s.2.1.length < 10000 ∧ s.2.2.length < 10000 ∧ gcdF (minv p) p s.1 s.2.1 s.2.2 = R)
      (fun s => [(0, .p (polyF p)), (1, .p (u64s s.2.1)), (2, .p (u64s s.2.2))]) (fun s => s.1) (nb.length + 1, na, nb) ⟨by dsimp only; omega, ha, hb, by dsimp only; omega, by dsimp only; omega, hR⟩ ⟨le_0, le_0, le_0, trivial⟩ ?_)
    rintro ⟨f, x, y⟩ ⟨h1, h2, h3, h4, h5, h6⟩
    dsimp only at h1 h2 h3 h4 h5 h6
    refine ev_seq (ev_rs [] rfl trivial (ev_cond rfl (fun h => ev_sk ?_) (fun h => ev_exit ?_)))
    · have hy : 0 < y.length := Int.ofNat_lt.mp (of_decide_eq_true h)
      obtain ⟨f, rfl⟩ : ∃ g, f = g + 1 := ⟨f - 1, by omega⟩
      have hr := remN_nz hf h2 h3 hy
      have hst : gcdF (minv p) p f y (remN (minv p) p x y) = R := by rw [← h6]; exact (if_neg (by omega)).symm
      refine ev_block ?_
      refine ev_rs [.tup 2 (two (u64s (divN (minv p) p x y).1) (u64s (remN (minv p) p x y)))] rfl ⟨.inl (divide_spec hm x y hy (by omega) (by omega)), trivial⟩ ?_
      exact ev_region [] rfl trivial (round0 (f, y, remN (minv p) p x y) ⟨by dsimp only; omega, h3, hr.1, h5, by dsimp only; omega, hst⟩ (Nat.lt_succ_self f) ⟨le_0, le_0, le_0, trivial⟩)
    · have hy : y.length = 0 := by
        have := of_decide_eq_false h
        dsimp only at this
        omega
      refine at0 () trivial ⟨le_0, le_e (congrArg u64s ?_), trivial⟩
      rw [← h6]
      cases f with
      | zero => rfl
      | succ f => exact (if_pos hy).symm
  rintro ⟨⟩ -
  exact ev_rs [u64s (monicF (minv p) p (normN p R))] rfl ⟨.inl (Monic_spec hm R (by omega)), trivial⟩ (ev_ret (ret1 (fz_p (PLe.refl _))))

end Go.Proofs

/- Long products, walked: over the integers; modulo any word. -/
set_option linter.unusedVariables false
namespace Go.Proofs
open Go Vinc Vinc.Num

theorem left_spec {m : Nat} (hm : MayM m) (a : List Nat) (hl : a.length < 1000000) (ha : ∀ j, a.getD j 0 < m) : CallSpec Tryz.pr.P Tryz.pr.G 59 [newF m, u64s a] (u64s a) := by
  obtain ⟨f, hf⟩ : ∃ f : Nat → Nat, f = fun i => a.getD i 0 := ⟨_, rfl⟩
  have hfi : ∀ i, a.getD i 0 % m = f i := fun i => by rw [hf]; exact Nat.mod_eq_of_lt (ha i)
  have hall : tabK f a.length a.length = a := by
    rw [tabK_all]
    refine list_ext (n := a.length) (len_tabL _ _) rfl fun j hj => ?_
    rw [getD_tabL, if_pos hj, hf]
  clear hf
  refine callSpec_of Tryz.pr Tryz.func59 rfl rfl rfl fun w0 ok0 hok hG => ?_
  refine ev_rs [] rfl trivial ?_
  refine ev_rs [] rfl ⟨⟨by omega, by omega, by omega⟩, trivial⟩ ?_
  refine ev_made 5 10 a.length rfl rfl rfl ?_
  refine ev_at (α := Unit) (fun _ => True) (fun _ => [(5, .p (u64s a))]) (fun _ => []) ?_ ?_
  · refine ev_rs [] rfl trivial ?_
    refine ev_block (ev_while (α := Nat) (fun i => i ≤ a.length) (fun i => [(0, .p (newF m)), (5, .own 10 0 a.length 1), (11, .p (u64s a)), (12, .p (i64 a.length)), (13, .p (i64 i))]) (fun i => [(10, ob64 (tabK f a.length i))]) (fun i => a.length - i) 0
      (Nat.zero_le _) (wk_ob rfl (fun hd => ⟨le_refl hd _, le_o rfl, le_refl hd _, le_refl hd _, le_refl hd _, trivial⟩)) ?_)
    rintro i h1
    refine ev_rs [] rfl trivial (ev_seq (ev_cond rfl (fun h => ev_sk ?_) (fun h => ev_exit ?_)))
    · have hi : i < a.length := Int.ofNat_lt.mp (of_decide_eq_true h)
      have hck := length_tabK f a.length i
      have hO := Of_spec (b := bk m) (t := tw m) hm (a.getD i 0)
      rw [hfi] at hO
      refine ev_seq (ev_block ?_)
      refine ev_rs [] rfl ⟨hi, ⟨by omega, by omega⟩, trivial⟩ ?_
      refine ev_region [u64 (f i)] rfl ⟨(by omega : i + 1 ≤ (tabK f a.length i).length), ⟨by omega, by omega⟩, .inl hO, trivial⟩ ?_
      refine ev_set 10 i (f i) rfl rfl rfl (by omega) ?_
      exact ev_region [] rfl trivial ⟨i + 1, hi, by dsimp only; omega, wk_ob rfl (fun hd => ⟨le_refl hd _, le_o rfl, le_refl hd _, le_refl hd _, le_n hd (congrArg (fun z => PV.val (.int .i64 z)) (wrapI _ (by omega) (by omega))), trivial⟩)⟩
    · have hi : i = a.length := by
        have := of_decide_eq_false h
        omega
      subst hi
      exact at0 () trivial ⟨le_fz' rfl (length_tabK f a.length a.length).symm hall, trivial⟩
  rintro ⟨⟩ -
  exact ev_rs [] rfl trivial (ev_ret (ret1 (fz_p (PLe.refl _))))

theorem fits_spec (a b : List Nat) (h : a.length + b.length ≤ 1048576) : CallSpec Tryz.pr.P Tryz.pr.G 57 [u64s a, u64s b] (i64 0) := by
  have e : decide (IntKind.wrap .i64 ((a.length : Int) + (b.length : Int)) > 1048576) = false := decide_eq_false (by rw [wrapI _ (by omega) (by omega)]; omega)
  have hc : (bif bif decide ((a.length : Int) > 0) then decide ((b.length : Int) > 0) else false then decide (IntKind.wrap .i64 ((a.length : Int) + (b.length : Int)) > 1048576) else false) = false := by
    rw [e]
    cases (bif decide ((a.length : Int) > 0) then decide ((b.length : Int) > 0) else false) <;> rfl
  refine callSpec_of Tryz.pr Tryz.func57 rfl rfl rfl fun w0 ok0 hok hG => ?_
  refine ev_rs [] rfl trivial ?_
  refine ev_seq (ev_rs [] rfl (by repeat' (first | exact trivial | exact gd_t | exact gd_f | exact (fun _ => rfl) | intro _ | apply And.intro | assumption | exact rfl | exact gd_t (by assumption) | exact gd_f (by assumption) | exact gd_a (by assumption) (by assumption) | exact gd_b (by assumption) (by assumption))) (ev_cf (congrArg (fun z => AV.p (PV.val (.bool z))) hc) (ev_sk ?_)))
  exact ev_rs [] rfl trivial (ev_ret (ret1 (fz_p (PLe.refl _))))

/-! ### over the integers -/

theorem ps_prod : ∀ K, K < 12 → ∀ i, i < 4 → prodK (psK K) i < BW ^ 8 := by decide +kernel
theorem ps_prod3 : ∀ K, K < 12 → 2048 * (9223372036854775807 * 9223372036854775807) < prodK (psK K) 3 := by decide +kernel
theorem ps_gcdK : ∀ K, K < 12 → ∀ i, i < 3 → Nat.gcd (prodK (psK K) i) ((psK K).getD i 0) = 1 := by decide +kernel

/-- Whole numbers, one behind the other. -/
def bigC (c : Nat → Nat) (j : Nat) : PV := two (Vinc.bool false) (u64s (wds (c (j / 2)))) (j % 2)

abbrev bigs (n : Nat) (c : Nat → Nat) : PV := .sl n 2 (bigC c)

theorem bigC_0 (c : Nat → Nat) (i q : Nat) (hq : q = 0) : bigC c (i * 2 + q) = Vinc.bool false := by
  unfold bigC
  rw [show (i * 2 + q) % 2 = 0 by omega]; rfl

theorem bigC_1 (c : Nat → Nat) (i q : Nat) (hq : q = 1) : bigC c (i * 2 + q) = u64s (wds (c i)) := by
  unfold bigC
  rw [show (i * 2 + q) % 2 = 1 by omega, show (i * 2 + q) / 2 = i by omega]; rfl

theorem lift3 {K : Nat} (hK : K < 12) (a b : List Nat) (i : Nat) (hc : cZ a b i < prodK (psK K) 3) :
    CallSpec Tryz.pr.P Tryz.pr.G 65 [u64s [(oneN ((psK K).getD 0 0) a b).getD i 0, (oneN ((psK K).getD 1 0) a b).getD i 0, (oneN ((psK K).getD 2 0) a b).getD i 0], u64s (psK K)] (.tup 3 (three (bigW (wds (cZ a b i))) (bigP (prodK (psK K) 3)) (i64 0))) := by
  have hlen := ps_len K hK
  have h := lift_spec [(oneN ((psK K).getD 0 0) a b).getD i 0, (oneN ((psK K).getD 1 0) a b).getD i 0, (oneN ((psK K).getD 2 0) a b).getD i 0] (psK K) (cZ a b i) hlen.symm
    (fun j hj => ps_may hK (by omega)) (by omega) (fun j hj => by
      have hj3 : j < 3 := by omega
      have hp : ∀ q, q < 3 → 0 < (psK K).getD q 0 := fun q hq => by have := (ps_may hK hq).1; omega
      match j, hj3 with
      | 0, _ => exact one_cZ (hp 0 (by decide)) a b i
      | 1, _ => exact one_cZ (hp 1 (by decide)) a b i
      | 2, _ => exact one_cZ (hp 2 (by decide)) a b i) (fun j hj => ps_gcdK K hK j (by omega)) (fun j hj => ps_prod K hK j (by omega))
  rw [hlen] at h
  rw [Nat.mod_eq_of_lt hc] at h
  exact h

set_option maxRecDepth 40000 in
theorem small_spec (a b : List Nat) (ha : 0 < a.length) (hb : 0 < b.length) (hn : a.length + b.length - 1 ≤ 2048) (hla : a.length ≤ 2048) (hlt : ∀ j, a.getD j 0 ≤ 9223372036854775807) (hlt2 : ∀ j, b.getD j 0 ≤ 9223372036854775807) :
    CallSpec Tryz.pr.P Tryz.pr.G 58 [u64s a, u64s b] (.tup 2 (two (bigs (a.length + b.length - 1) (cZ a b)) (i64 0))) := by
  have hP := parts_spec a b ha hb hn
  have hll : ∀ p, (oneN p a b).length = a.length + b.length - 1 := fun p => by rw [length_oneN', if_neg (by omega)]
  obtain ⟨n, hnn⟩ : ∃ n, a.length + b.length - 1 = n := ⟨_, rfl⟩
  rw [hnn] at hn hP hll ⊢
  have hn0 : 1 ≤ n := by omega
  obtain ⟨hK, hnK⟩ := log_len n hn0 hn
  generalize len64 (n - 1) = K at *
  have hcl : ∀ t, cZ a b t < prodK (psK K) 3 := fun t => by
    have h1 := cZ_le hlt hlt2 t
    have h2 := ps_prod3 K hK
    have h3 : a.length * (9223372036854775807 * 9223372036854775807) ≤ 2048 * (9223372036854775807 * 9223372036854775807) := Nat.mul_le_mul_right _ hla
    omega
  have hL := fun i => lift3 hK a b i (hcl i)
  have hlen := ps_len K hK
  generalize prodK (psK K) 3 = M at *
  obtain ⟨c, hc⟩ : ∃ c : Nat → Nat, cZ a b = c := ⟨_, rfl⟩
  rw [hc] at hL ⊢
  have hc1 : (bif ((a.length : Int) == 0) then true else ((b.length : Int) == 0)) = false := by
    rw [beq_eq_false_iff_ne.mpr (by omega : (a.length : Int) ≠ 0), beq_eq_false_iff_ne.mpr (by omega : (b.length : Int) ≠ 0)]; rfl
  refine callSpec_of Tryz.pr Tryz.func58 rfl rfl rfl fun w0 ok0 hok hG => ?_
  refine ev_rs [] rfl trivial ?_
  refine ev_seq (ev_rs [] rfl (by repeat' (first | exact trivial | exact gd_t | exact gd_f | exact (fun _ => rfl) | intro _ | apply And.intro | assumption | exact rfl | exact gd_t (by assumption) | exact gd_f (by assumption) | exact gd_a (by assumption) (by assumption) | exact gd_b (by assumption) (by assumption))) (ev_cf (congrArg (fun z => AV.p (PV.val (.bool z))) hc1) (ev_sk ?_)))
  refine ev_rs [.tup 3 (three (.agg 3 (threeP K a b)) (u64s (psK K)) (i64 0))] rfl (by repeat' (first | exact trivial | exact gd_t | exact gd_f | exact leb rfl | exact .inl hP | exact (fun _ => rfl) | intro _ | apply And.intro | assumption | exact rfl | exact gd_t (by assumption) | exact gd_f (by assumption) | exact gd_a (by assumption) (by assumption) | exact gd_b (by assumption) (by assumption))) ?_
  refine ev_seq (ev_rs [] rfl trivial (ev_cf rfl (ev_sk ?_)))
  refine ev_rs [] rfl trivial (ev_nilownS 9 909 2 ⟨0 * 2, fun j => .p (bigC c j)⟩ rfl rfl rfl ?_)
  refine ev_at (α := Unit) (fun _ => True) (fun _ => [(9, .p (bigs n c))]) (fun _ => []) ?_ ?_
  · refine ev_rs [] rfl (by repeat' (first | exact trivial | exact gd_t | exact gd_f | exact leb rfl | exact by decide | exact (fun _ => rfl) | intro _ | apply And.intro | assumption | exact rfl | exact gd_t (by assumption) | exact gd_f (by assumption) | exact gd_a (by assumption) (by assumption) | exact gd_b (by assumption) (by assumption))) (ev_eq 34 (.p (i64 n)) (congrArg (fun n : Nat => AV.p (i64 n)) (hll _)) ?_)
    refine ev_block (ev_while (α := Nat) (fun i => i ≤ n) (fun i => [(6, .oat 6 0), (7, .p (u64s (psK K))), (9, .own 909 0 i 2), (34, .p (i64 n)), (35, .p (i64 i))])
      (fun i => [(6, ⟨3, fun j => .p (threeP K a b j)⟩), (909, ⟨i * 2, fun j => .p (bigC c j)⟩)]) (fun i => n - i) 0 (Nat.zero_le _)
      (wk_l (fun i => i) (all2 rfl rfl) (fun hd => ⟨le_a rfl, le_refl hd _, le_o rfl, le_refl hd _, le_refl hd _, trivial⟩)
        (fun hd => ⟨⟨_, rfl, leb rfl, fun j hj => by
          match j, hj with
          | 0, _ => exact le_refl hd _
          | 1, _ => exact le_refl hd _
          | 2, _ => exact le_refl hd _⟩, ⟨_, rfl, Nat.le_refl _, fun j _ => le_refl hd _⟩, trivial⟩) rfl) ?_)
    rintro i h1
    refine ev_rs [] rfl trivial (ev_seq (ev_cond rfl (fun hq => ev_sk ?_) (fun hq => ev_exit ?_)))
    · have hi : i < n := Int.ofNat_lt.mp (of_decide_eq_true hq)
      have d1 : (0 : Int) ≤ (i : Int) := by omega
      have d2 : ∀ p, (i : Int) < ((oneN p a b).length : Int) := fun p => by rw [hll]; omega
      have d3 : ∀ p, i < (oneN p a b).length := fun p => by rw [hll]; exact hi
      have d4 : i + 1 ≤ 1099511627776 := by omega
      refine ev_seq (ev_block ?_)
      refine ev_rs [] rfl trivial ?_
      refine ev_ds [.tup 3 (three (bigW (wds (c i))) (bigP M) (i64 0))] (by kernel_rfl) rfl rfl (by repeat' (first | exact trivial | exact gd_t | exact gd_f | exact leb rfl | exact d1 | exact d2 _ | exact d3 _ | exact by decide | exact .inl (callSpec_args (as' := [u64s [(oneN ((psK K).getD 0 0) a b).getD i 0, (oneN ((psK K).getD 1 0) a b).getD i 0, (oneN ((psK K).getD 2 0) a b).getD i 0], u64s (psK K)]) ⟨PLe.lit3 rfl rfl rfl, PLe.refl _, trivial⟩ (hL i)) | exact (fun _ => rfl) | intro _ | apply And.intro | assumption | exact rfl | exact gd_t (by assumption) | exact gd_f (by assumption) | exact gd_a (by assumption) (by assumption) | exact gd_b (by assumption) (by assumption))) ?_
      refine ev_seq (ev_rs [] rfl trivial (ev_cf rfl (ev_sk ?_)))
      refine ev_region [] rfl (by repeat' (first | exact trivial | exact gd_t | exact gd_f | exact leb rfl | exact d4 | exact (fun _ => rfl) | intro _ | apply And.intro | assumption | exact rfl | exact gd_t (by assumption) | exact gd_f (by assumption) | exact gd_a (by assumption) (by assumption) | exact gd_b (by assumption) (by assumption))) ?_
      refine ev_obs 66 ⟨(i + 1) * 2, fun j => .p (bigC c j)⟩ rfl rfl (fun j hj => ?_) ?_
      · have hj : j < (i + 1) * 2 := hj
        change AV.p (bigC c j) = (if j < i * 2 then AV.p (bigC c j) else (_ : Nat → AV) (j - i * 2))
        by_cases h : j < i * 2
        · rw [if_pos h]
        · rw [if_neg h]
          rcases (by omega : j - i * 2 = 0 ∨ j - i * 2 = 1) with hq | hq
          · rw [hq]
            show AV.p (bigC c j) = AV.p (Vinc.bool false)
            rw [show j = i * 2 + 0 by omega, bigC_0 c i 0 rfl]
          · rw [hq]
            show AV.p (bigC c j) = AV.p (u64s (wds (c i)))
            rw [show j = i * 2 + 1 by omega, bigC_1 c i 1 rfl]
      exact ev_region [] rfl trivial ⟨i + 1, hi, by dsimp only; omega, wk_l (ren2 909 66) (all2 rfl rfl) (fun hd => ⟨le_oat (ρ := ren2 909 66) (i := 6) rfl, le_refl hd _, le_own (ρ := ren2 909 66) (i := 909) rfl, le_refl hd _, le_n hd (congrArg (fun z => PV.val (.int .i64 z)) (wrapI _ (by omega) (by omega))), trivial⟩)
        (fun hd => ⟨⟨_, rfl, leb rfl, fun j _ => le_refl hd _⟩, ⟨_, rfl, Nat.le_refl _, fun j _ => le_refl hd _⟩, trivial⟩) rfl⟩
    · have hi : i = n := by
        have := of_decide_eq_false hq
        omega
      subst hi
      exact at0 () trivial ⟨le_freeze ren_nil rfl (show 0 + i * 2 ≤ i * 2 by omega) (fun k hk => by cases hk) (fun j _ => by
        show Le _ _ _ _ (.p (bigC c (0 + j))) _
        rw [Nat.zero_add]
        exact le_refl ren_nil _), trivial⟩
  rintro ⟨⟩ -
  exact ev_rs [] rfl trivial (ev_ret (ret2 (fz_p (PLe.refl _)) (fz_p (PLe.refl _))))

theorem small_none (a b : List Nat) (h : a.length = 0 ∨ b.length = 0) : CallSpec Tryz.pr.P Tryz.pr.G 58 [u64s a, u64s b] (.tup 2 (two nilS (i64 0))) := by
  have hc1 : (bif ((a.length : Int) == 0) then true else ((b.length : Int) == 0)) = true := by
    rcases h with h | h
    · rw [h]; rfl
    · rw [h]; cases ((a.length : Int) == 0) <;> rfl
  refine callSpec_of Tryz.pr Tryz.func58 rfl rfl rfl fun w0 ok0 hok hG => ?_
  refine ev_rs [] rfl trivial ?_
  refine ev_seq (ev_rs [] rfl (by repeat' (first | exact trivial | exact gd_t | exact gd_f | exact (fun _ => rfl) | intro _ | apply And.intro | assumption | exact rfl | exact gd_t (by assumption) | exact gd_f (by assumption) | exact gd_a (by assumption) (by assumption) | exact gd_b (by assumption) (by assumption))) (ev_ct (congrArg (fun z => AV.p (PV.val (.bool z))) hc1) ?_))
  exact ev_rs [] rfl trivial (ev_ret (ret2 (fz_p (PLe.refl _)) (fz_p (PLe.refl _))))

/-! ### modulo any word -/

set_option maxRecDepth 40000 in
theorem conv_none {m : Nat} (hm : MayM m) (a b : List Nat) (hl : a.length < 1000 ∧ b.length < 1000) (ha : ∀ j, a.getD j 0 < m) (hb : ∀ j, b.getD j 0 < m) (h : a.length = 0 ∨ b.length = 0) : CallSpec Tryz.pr.P Tryz.pr.G 51 [u64s a, u64s b, u64 m] (.tup 2 (two (u64s (oneN m a b)) (i64 0))) := by
  have e : oneN m a b = [] := if_pos h
  rw [e]
  refine callSpec_of Tryz.pr Tryz.func51 rfl rfl rfl fun w0 ok0 hok hG => ?_
  refine ev_rs [] rfl trivial ?_
  refine ev_rs [.tup 2 (two (newF m) (i64 0))] rfl ⟨.inl (New_spec hm), trivial⟩ ?_
  refine ev_seq (ev_rs [] rfl trivial (ev_cf rfl (ev_sk ?_)))
  refine ev_seq (ev_rs [i64 0] rfl ⟨.inl (fits_spec a b (by omega)), trivial⟩ (ev_rs [] rfl trivial (ev_cf rfl (ev_sk ?_))))
  refine ev_rs [u64s a, u64s b, .tup 2 (two nilS (i64 0))] rfl (by repeat' (first | exact trivial | exact gd_t | exact gd_f | exact .inl (left_spec hm a (by omega) ha) | exact .inl (left_spec hm b (by omega) hb) | exact .inl (small_none a b h) | exact (fun _ => rfl) | intro _ | apply And.intro | assumption | exact rfl | exact gd_t (by assumption) | exact gd_f (by assumption) | exact gd_a (by assumption) (by assumption) | exact gd_b (by assumption) (by assumption))) ?_
  refine ev_seq (ev_rs [] rfl trivial (ev_cf rfl (ev_sk ?_)))
  refine ev_rs [] rfl trivial ?_
  refine ev_at (α := Unit) (fun _ => True) (fun _ => [(12, .p nilS)]) (fun _ => []) ?_ ?_
  · refine ev_rs [] rfl trivial ?_
    refine ev_block (ev_while0 (α := Unit) (fun _ => True) (fun _ => [(12, .p nilS), (45, .p (i64 0)), (46, .p (i64 0))]) (fun _ => 0) () trivial ⟨le_0, le_0, le_0, trivial⟩ ?_)
    rintro ⟨⟩ -
    refine ev_rs [] rfl trivial (ev_seq (ev_cf rfl (ev_exit ?_)))
    exact at0 () trivial ⟨le_0, trivial⟩
  rintro ⟨⟩ -
  exact ev_rs [] rfl trivial (ev_ret (ret2 (fz_p PLe.nil) (fz_p (PLe.refl _))))

set_option maxRecDepth 40000 in
theorem conv_spec {m : Nat} (hm : MayM m) (a b : List Nat) (hl : a.length ≤ 1000) (hl2 : b.length ≤ 1000) (ha0 : 0 < a.length) (hb0 : 0 < b.length) (ha : ∀ j, a.getD j 0 < m) (hb : ∀ j, b.getD j 0 < m) :
    CallSpec Tryz.pr.P Tryz.pr.G 51 [u64s a, u64s b, u64 m] (.tup 2 (two (u64s (oneN m a b)) (i64 0))) := by
  have hm1 := hm.1
  have hm2 := hm.2
  have hS := small_spec a b ha0 hb0 (by omega) (by omega) (fun j => by have := ha j; omega) (fun j => by have := hb j; omega)
  have hcl : ∀ t, cZ a b t < BW ^ 8 := fun t => by
    have h1 := cZ_le (a := a) (b := b) (M := 9223372036854775807) (fun j => by have := ha j; omega) (fun j => by have := hb j; omega) t
    have h3 : a.length * (9223372036854775807 * 9223372036854775807) ≤ 2048 * (9223372036854775807 * 9223372036854775807) := Nat.mul_le_mul_right _ (by omega)
    have h4 : 2048 * (9223372036854775807 * 9223372036854775807) < BW ^ 8 := by decide +kernel
    omega
  have hMd := fun t => bigMod_spec (cZ a b t) m (hcl t) (by omega) (Nat.lt_trans hm2 (by decide))
  have hll : (oneN m a b).length = a.length + b.length - 1 := by rw [length_oneN', if_neg (by omega)]
  have hone : tabL (fun t => cZ a b t % m) (a.length + b.length - 1) = oneN m a b := by
    refine list_ext (n := a.length + b.length - 1) (len_tabL _ _) hll fun j hj => ?_
    rw [getD_tabL, if_pos hj, one_cZ (by omega)]
  obtain ⟨n, hnn⟩ : ∃ n, a.length + b.length - 1 = n := ⟨_, rfl⟩
  obtain ⟨f, hf⟩ : ∃ f : Nat → Nat, f = fun t => cZ a b t % m := ⟨_, rfl⟩
  have hMd : ∀ t, CallSpec Tryz.pr.P Tryz.pr.G 60 [bigW (wds (cZ a b t)), u64 m] (.tup 2 (two (u64 (f t)) (i64 0))) := fun t => by rw [hf]; exact hMd t
  rw [hnn] at hS hone
  rw [← hf] at hone
  rw [← hone]
  clear hf hone hcl
  generalize cZ a b = c at *
  refine callSpec_of Tryz.pr Tryz.func51 rfl rfl rfl fun w0 ok0 hok hG => ?_
  refine ev_rs [] rfl trivial ?_
  refine ev_rs [.tup 2 (two (newF m) (i64 0))] rfl ⟨.inl (New_spec hm), trivial⟩ ?_
  refine ev_seq (ev_rs [] rfl trivial (ev_cf rfl (ev_sk ?_)))
  refine ev_seq (ev_rs [i64 0] rfl ⟨.inl (fits_spec a b (by omega)), trivial⟩ (ev_rs [] rfl trivial (ev_cf rfl (ev_sk ?_))))
  refine ev_rs [u64s a, u64s b, .tup 2 (two (bigs n c) (i64 0))] rfl (by repeat' (first | exact trivial | exact gd_t | exact gd_f | exact .inl (left_spec hm a (by omega) ha) | exact .inl (left_spec hm b (by omega) hb) | exact .inl hS | exact (fun _ => rfl) | intro _ | apply And.intro | assumption | exact rfl | exact gd_t (by assumption) | exact gd_f (by assumption) | exact gd_a (by assumption) (by assumption) | exact gd_b (by assumption) (by assumption))) ?_
  refine ev_seq (ev_rs [] rfl trivial (ev_cf rfl (ev_sk ?_)))
  refine ev_rs [] rfl trivial (ev_nilown 12 912 rfl rfl ?_)
  refine ev_at (α := Unit) (fun _ => True) (fun _ => [(12, .p (u64s (tabL f n)))]) (fun _ => []) ?_ ?_
  · refine ev_rs [] rfl trivial ?_
    refine ev_block (ev_while (α := Nat) (fun i => i ≤ n) (fun i => [(2, .p (u64 m)), (12, .own 912 0 i 1), (44, .p (bigs n c)), (45, .p (i64 n)), (46, .p (i64 i))])
      (fun i => [(912, ob64 (tabL f i))]) (fun i => n - i) 0 (Nat.zero_le _)
      (wk_ob rfl (fun hd => ⟨le_refl hd _, le_o rfl, le_refl hd _, le_refl hd _, le_refl hd _, trivial⟩)) ?_)
    rintro i h1
    refine ev_rs [] rfl trivial (ev_seq (ev_cond rfl (fun hq => ev_sk ?_) (fun hq => ev_exit ?_)))
    · have hi : i < n := Int.ofNat_lt.mp (of_decide_eq_true hq)
      have d1 : (0 : Int) ≤ (i : Int) := by omega
      have d2 : (i : Int) < (n : Int) := by omega
      have d3 : i * 2 + 2 ≤ n * 2 := by omega
      have d4 : i + 1 ≤ 1099511627776 := by omega
      have d8 : (tabL f i).length = i := len_tabL _ _
      refine ev_seq (ev_block ?_)
      refine ev_rs [] rfl (by repeat' (first | exact trivial | exact gd_t | exact gd_f | exact leb rfl | exact d1 | exact d2 | exact d3 | exact (fun _ => rfl) | intro _ | apply And.intro | assumption | exact rfl | exact gd_t (by assumption) | exact gd_f (by assumption) | exact gd_a (by assumption) (by assumption) | exact gd_b (by assumption) (by assumption))) ?_
      refine ev_rs [.tup 2 (two (u64 (f i)) (i64 0))] rfl (by repeat' (first | exact trivial | exact gd_t | exact gd_f | exact leb rfl | exact .inl (callSpec_args (as' := [bigW (wds (c i)), u64 m]) ⟨PLe.big rfl (bigC_0 c i _ rfl) (bigC_1 c i _ rfl), PLe.refl _, trivial⟩ (hMd i)) | exact (fun _ => rfl) | intro _ | apply And.intro | assumption | exact rfl | exact gd_t (by assumption) | exact gd_f (by assumption) | exact gd_a (by assumption) (by assumption) | exact gd_b (by assumption) (by assumption))) ?_
      refine ev_seq (ev_rs [] rfl trivial (ev_cf rfl (ev_sk ?_)))
      refine ev_region [] rfl (by repeat' (first | exact trivial | exact gd_t | exact gd_f | exact leb rfl | exact d4 | exact d8 | exact (fun _ => rfl) | intro _ | apply And.intro | assumption | exact rfl | exact gd_t (by assumption) | exact gd_f (by assumption) | exact gd_a (by assumption) (by assumption) | exact gd_b (by assumption) (by assumption))) ?_
      refine ev_app 12 62 (tabL f i) [f i] rfl rfl (show i + 1 = _ by rw [d8]; rfl) (show i + 1 = _ by rw [d8]; rfl) d8.symm (fun _ _ => rfl) (fun q hq => by match q, hq with | 0, _ => rfl) ?_
      have d9 : tabL f i ++ [f i] = tabL f (i + 1) := (tabL_snoc f i).symm
      refine ev_eq 12 (.own 62 0 (i + 1) 1) (congrArg (fun z => AV.own 62 0 z 1) (by rw [d9]; exact len_tabL _ _)) (ev_ob 62 (ob64 (tabL f (i + 1))) (congrArg (fun l => some (ob64 l)) d9) ?_)
      exact ev_region [] rfl trivial ⟨i + 1, hi, by dsimp only; omega, wk_l (ren2 912 62) (all1 rfl) (fun hd => ⟨le_refl hd _, le_own (ρ := ren2 912 62) (i := 912) rfl, le_refl hd _, le_refl hd _, le_n hd (congrArg (fun z => PV.val (.int .i64 z)) (wrapI _ (by omega) (by omega))), trivial⟩)
        (fun hd => ⟨⟨_, rfl, Nat.le_refl _, fun j _ => le_refl hd _⟩, trivial⟩) rfl⟩
    · have hi : i = n := by
        have := of_decide_eq_false hq
        omega
      subst hi
      exact at0 () trivial ⟨le_fz' rfl (len_tabL f i).symm rfl, trivial⟩
  rintro ⟨⟩ -
  exact ev_rs [] rfl trivial (ev_ret (ret2 (fz_p (PLe.refl _)) (fz_p (PLe.refl _))))

theorem conv_all {m : Nat} (hm : MayM m) (a b : List Nat) (hl : a.length < 1000) (hl2 : b.length < 1000) (ha : ∀ j, a.getD j 0 < m) (hb : ∀ j, b.getD j 0 < m) :
    CallSpec Tryz.pr.P Tryz.pr.G 51 [u64s a, u64s b, u64 m] (.tup 2 (two (u64s (oneN m a b)) (i64 0))) := by
  by_cases h : a.length = 0 ∨ b.length = 0
  · exact conv_none hm a b ⟨hl, hl2⟩ ha hb h
  · exact conv_spec hm a b (by omega) (by omega) (by omega) (by omega) ha hb

set_option maxRecDepth 40000 in
theorem byPrimes_spec {p : Nat} (hm : MayM p) (a b : List Nat) (hl : a.length < 1000) (hl2 : b.length < 1000) (ha : ∀ j, a.getD j 0 < p) (hb : ∀ j, b.getD j 0 < p) :
    CallSpec Tryz.pr.P Tryz.pr.G 32 [polyF p, u64s a, u64s b] (.tup 2 (two (u64s (timesN p a b)) (i64 0))) := by
  have hC := conv_all hm a b hl hl2 ha hb
  have := length_oneN p a b
  have hT := trim_spec (oneN p a b) (by omega)
  unfold timesN
  generalize oneN p a b = o at *
  refine callSpec_of Tryz.pr Tryz.func32 rfl rfl rfl fun w0 ok0 hok hG => ?_
  refine ev_rs [] rfl trivial ?_
  refine ev_rs [u64 p, .tup 2 (two (u64s o) (i64 0))] rfl (by repeat' (first | exact trivial | exact gd_t | exact gd_f | exact .inl UP_spec | exact .inl hC | exact (fun _ => rfl) | intro _ | apply And.intro | assumption | exact rfl | exact gd_t (by assumption) | exact gd_f (by assumption) | exact gd_a (by assumption) (by assumption) | exact gd_b (by assumption) (by assumption))) ?_
  generalize trimN o = t at *
  exact ev_rs [u64s t] rfl ⟨.inl hT, trivial⟩ (ev_ret (ret2 (fz_p (PLe.refl _)) (fz_p (PLe.refl _))))

end Go.Proofs

/- The laws of upoly: the field, the chapter's example, division. -/
set_option linter.unusedVariables false
namespace Go.Proofs
open Go Vinc Vinc.Num

theorem minv7 : minv 7 = iv7 := by
  funext x
  have hx : x % 7 < 7 := Nat.mod_lt _ (by decide)
  have h5 : x ^ 5 % 7 = (x % 7) ^ 5 % 7 := Nat.pow_mod _ _ _
  by_cases h0 : x % 7 = 0
  · rw [minv_none (by rw [← gcd_mod, h0]; decide)]
    show 0 = x ^ 5 % 7
    rw [h5, h0]
  · refine minv_eq (Nat.mod_lt _ (by decide)) ?_
    show x * (x ^ 5 % 7) % 7 = 1
    rw [Nat.mul_mod, Nat.mod_mod, h5]
    generalize x % 7 = r at *
    have : ∀ r, r < 7 → ¬ r = 0 → r * (r ^ 5 % 7) % 7 = 1 := by decide
    exact this r hx h0

theorem may7 : MayM 7 := ⟨by decide, by decide⟩
theorem isB7 : isB 7 = true := by decide +kernel
theorem prime7 : IsPrime 7 := isB_small (by decide) isB7
theorem asked7 : Asked 7 := .inr (.inr (.inr ⟨by decide, prime7⟩))

theorem awake_spec : CallSpec Tryz.pr.P Tryz.pr.G 11 [] (Vinc.bool true) := by
  have hD := DivM_ok may7 [1, 0, 1] [1, 1] (by decide) (by decide) (by decide)
  have hG1 := Gcd_spec may7 (asked_fd asked7) [6, 0, 1] [1, 1] (by decide) (by decide)
  rw [minv7] at hD hG1
  rw [show divN iv7 7 (normN 7 [1, 0, 1]) (normN 7 [1, 1]) = ([6, 1], [2]) by decide] at hD
  rw [show gcdN iv7 7 [6, 0, 1] [1, 1] = [1, 1] by decide] at hG1
  have hS1 := Same_spec [6, 1] [6, 1] (by decide) (by decide)
  have hS2 := Same_spec [2] [2] (by decide) (by decide)
  have hS3 := Same_spec [1, 1] [1, 1] (by decide) (by decide)
  rw [decide_eq_true rfl] at hS1 hS2 hS3
  refine callSpec_of Tryz.pr Tryz.func11 rfl rfl rfl fun w0 ok0 hok hG => ?_
  refine ev_rs [] rfl trivial ?_
  refine ev_rs [.tup 2 (two (polyF 7) (i64 0))] rfl ⟨.inl (UNew_ok may7 isB7), trivial⟩ ?_
  refine ev_seq (ev_rs [] rfl (by repeat' (first | exact trivial | exact gd_t | exact gd_f | exact (fun _ => rfl) | intro _ | apply And.intro | assumption | exact rfl | exact gd_t (by assumption) | exact gd_f (by assumption) | exact gd_a (by assumption) (by assumption) | exact gd_b (by assumption) (by assumption))) (ev_cf rfl (ev_sk ?_)))
  refine ev_rs [.tup 3 (three (u64s [6, 1]) (u64s [2]) (i64 0))] rfl ⟨⟨⟨Nat.le_refl 3, Nat.le_refl 2, trivial⟩, .inl (callSpec_args (as' := [polyF 7, u64s [1, 0, 1], u64s [1, 1]]) ⟨PLe.refl _, PLe.lit rfl (fun j hj => ?_), PLe.lit rfl (fun j hj => ?_), trivial⟩ hD)⟩, trivial⟩ ?_
  · match j, hj with
    | 0, _ | 1, _ | 2, _ => rfl
  · match j, hj with
    | 0, _ | 1, _ => rfl
  refine ev_rs [u64s [1, 1]] rfl ⟨⟨⟨Nat.le_refl 3, Nat.le_refl 2, trivial⟩, .inl (callSpec_args (as' := [polyF 7, u64s [6, 0, 1], u64s [1, 1]]) ⟨PLe.refl _, PLe.lit rfl (fun j hj => ?_), PLe.lit rfl (fun j hj => ?_), trivial⟩ hG1)⟩, trivial⟩ ?_
  · match j, hj with
    | 0, _ | 1, _ | 2, _ => rfl
  · match j, hj with
    | 0, _ | 1, _ => rfl
  refine ev_rs [Vinc.bool true, Vinc.bool true, Vinc.bool true] rfl ?_ (ev_ret (ret1 (fz_p (PLe.of_eq rfl))))
  have hS1' : ∀ g : Nat → PV, (∀ j, j < 2 → g j = u64 ([6, 1].getD j 0)) → CallOk Tryz.pr.P Tryz.pr.G 13 [u64s [6, 1], .sl 2 1 g] (Vinc.bool true) := fun g hg =>
    .inl (callSpec_args (as' := [u64s [6, 1], u64s [6, 1]]) ⟨PLe.refl _, PLe.lit rfl hg, trivial⟩ hS1)
  have hS2' : ∀ g : Nat → PV, (∀ j, j < 1 → g j = u64 ([2].getD j 0)) → CallOk Tryz.pr.P Tryz.pr.G 13 [u64s [2], .sl 1 1 g] (Vinc.bool true) := fun g hg =>
    .inl (callSpec_args (as' := [u64s [2], u64s [2]]) ⟨PLe.refl _, PLe.lit rfl hg, trivial⟩ hS2)
  have hS3' : ∀ g : Nat → PV, (∀ j, j < 2 → g j = u64 ([1, 1].getD j 0)) → CallOk Tryz.pr.P Tryz.pr.G 13 [u64s [1, 1], .sl 2 1 g] (Vinc.bool true) := fun g hg =>
    .inl (callSpec_args (as' := [u64s [1, 1], u64s [1, 1]]) ⟨PLe.refl _, PLe.lit rfl hg, trivial⟩ hS3)
  repeat' (first | exact trivial | exact gd_t | exact gd_f | exact Nat.le_refl 2 | exact Nat.le_refl 1 | exact (fun _ => rfl) | intro _ | apply And.intro | assumption | exact rfl)
  · refine hS3' _ (fun j hj => ?_)
    match j, hj with
    | 0, _ => rfl
    | 1, _ => rfl
  · refine hS2' _ (fun j hj => ?_)
    match j, hj with
    | 0, _ => rfl
  · refine hS1' _ (fun j hj => ?_)
    match j, hj with
    | 0, _ => rfl
    | 1, _ => rfl

theorem LawPrime_t {p : Nat} (h : Asked p) : CallSpec Tryz.pr.P Tryz.pr.G 31 [u64 p] (Vinc.bool true) := askedB_t h ▸ LawPrime_spec p
theorem LawPrime_f {p : Nat} (h : ¬ Asked p) : CallSpec Tryz.pr.P Tryz.pr.G 31 [u64 p] (Vinc.bool false) := askedB_f h ▸ LawPrime_spec p

theorem field_t {p : Nat} (hA : Asked p) : CallSpec Tryz.pr.P Tryz.pr.G 9 [u64 p] (.tup 2 (two (polyF p) (Vinc.bool true))) := by
  refine callSpec_of Tryz.pr Tryz.func9 rfl rfl rfl fun w0 ok0 hok hG => ?_
  refine ev_rs [] rfl trivial ?_
  refine ev_rs [.tup 2 (two (polyF p) (i64 0))] rfl ⟨.inl (UNew_ok (asked_may hA) (isB_asked hA)), trivial⟩ ?_
  refine ev_seq (ev_rs [Vinc.bool true] rfl ⟨.inl (LawPrime_t hA), trivial⟩ (ev_ct rfl ?_))
  refine ev_rs [u64 p] rfl (by repeat' (first | exact trivial | exact gd_t | exact gd_f | exact .inl UP_spec | exact (fun _ => rfl) | intro _ | apply And.intro | assumption | exact rfl | exact gd_t (by assumption) | exact gd_f (by assumption) | exact gd_a (by assumption) (by assumption) | exact gd_b (by assumption) (by assumption))) (ev_ret (ret2 (fz_p (PLe.refl _)) (fz_p (PLe.of_eq (congrArg Vinc.bool ?_)))))
  have key : ∀ z : Int, (bif (bif true then ((0 : Int) == 0) else false) then (z == z) else false) = true := fun z => by rw [beq_self_eq_true z]; rfl
  exact key _

theorem bool5 : ∀ a b : Bool, (bif a then true else b) = false → a = false ∧ b = false := by decide

theorem field_f {p : Nat} (hp : p < 18446744073709551616) (hA : ¬ Asked p) : CallSpec Tryz.pr.P Tryz.pr.G 9 [u64 p] (.tup 2 (two nilP (Vinc.bool true))) := by
  by_cases hB : p < 9223372036854775808 ∧ isB p = true
  · have hbig : 100000 < p := by
      rcases Nat.lt_or_ge 100000 p with h1 | h1
      · exact h1
      · have := isB_not hA h1
        rw [hB.2] at this; cases this
    have hm : MayM p := ⟨by omega, hB.1⟩
    refine callSpec_of Tryz.pr Tryz.func9 rfl rfl rfl fun w0 ok0 hok hG => ?_
    refine ev_rs [] rfl trivial ?_
    refine ev_rs [.tup 2 (two (polyF p) (i64 0))] rfl ⟨.inl (UNew_ok hm hB.2), trivial⟩ ?_
    refine ev_seq (ev_rs [Vinc.bool false] rfl ⟨.inl (LawPrime_f hA), trivial⟩ (ev_cf rfl (ev_sk ?_)))
    have hc : (bif decide ((p : Int) ≤ 100000) then true else decide ((p : Int) ≥ 9223372036854775808)) = false := by
      rw [decide_eq_false (by omega), decide_eq_false (by omega)]; rfl
    refine ev_seq (ev_rs [] rfl (by repeat' (first | exact trivial | exact gd_t | exact gd_f | exact (fun _ => rfl) | intro _ | apply And.intro | assumption | exact rfl | exact gd_t (by assumption) | exact gd_f (by assumption) | exact gd_a (by assumption) (by assumption) | exact gd_b (by assumption) (by assumption))) (ev_cf (congrArg (fun z => AV.p (PV.val (.bool z))) hc) (ev_sk ?_)))
    exact ev_rs [] rfl trivial (ev_ret (ret2 (fz_p (PLe.refl _)) (fz_p (PLe.refl _))))
  · refine callSpec_of Tryz.pr Tryz.func9 rfl rfl rfl fun w0 ok0 hok hG => ?_
    refine ev_rs [] rfl trivial ?_
    refine ev_rs [.tup 2 (two nilP (i64 14))] rfl ⟨.inl (UNew_no hp hB), trivial⟩ ?_
    refine ev_seq (ev_rs [Vinc.bool false] rfl ⟨.inl (LawPrime_f hA), trivial⟩ (ev_cf rfl (ev_sk ?_)))
    refine ev_seq (ev_rs [] rfl (by repeat' (first | exact trivial | exact gd_t | exact gd_f | exact (fun _ => rfl) | intro _ | apply And.intro | assumption | exact rfl | exact gd_t (by assumption) | exact gd_f (by assumption) | exact gd_a (by assumption) (by assumption) | exact gd_b (by assumption) (by assumption))) (ev_cond rfl (fun h => ?_) (fun h => ev_sk ?_)))
    · exact ev_rs [] rfl (by repeat' (first | exact trivial | exact gd_t | exact gd_f | exact (fun _ => rfl) | intro _ | apply And.intro | assumption | exact rfl | exact gd_t (by assumption) | exact gd_f (by assumption) | exact gd_a (by assumption) (by assumption) | exact gd_b (by assumption) (by assumption))) (ev_ret (ret2 (fz_p (PLe.refl _)) (fz_p (PLe.refl _))))
    · exact ev_rs [] rfl trivial (ev_ret (ret2 (fz_p (PLe.refl _)) (fz_p (PLe.refl _))))

def fewB (a b : List Nat) : Bool := bif decide ((a.length : Int) ≤ 40) then decide ((b.length : Int) ≤ 40) else false

theorem few_spec (a b : List Nat) : CallSpec Tryz.pr.P Tryz.pr.G 10 [u64s a, u64s b] (Vinc.bool (fewB a b)) := by
  refine callSpec_of Tryz.pr Tryz.func10 rfl rfl rfl fun w0 ok0 hok hG => ?_
  refine ev_rs [] rfl trivial ?_
  exact ev_rs [] rfl (by repeat' (first | exact trivial | exact gd_t | exact gd_f | exact (fun _ => rfl) | intro _ | apply And.intro | assumption | exact rfl | exact gd_t (by assumption) | exact gd_f (by assumption) | exact gd_a (by assumption) (by assumption) | exact gd_b (by assumption) (by assumption))) (ev_ret (ret1 (fz_p (PLe.refl _))))

theorem fewB_t {a b : List Nat} (h : (!fewB a b) = false) : a.length ≤ 40 ∧ b.length ≤ 40 := by
  unfold fewB at h
  cases h1 : decide ((a.length : Int) ≤ 40) <;> cases h2 : decide ((b.length : Int) ≤ 40) <;> rw [h1, h2] at h <;> try (cases h; done)
  have := of_decide_eq_true h1
  have := of_decide_eq_true h2
  omega

end Go.Proofs

/- Products of polynomials, walked: the ways 0 (short), 1, 2; other ways; no field. -/
set_option linter.unusedVariables false
namespace Go.Proofs
open Go Vinc Vinc.Num

theorem bif_ff {b c : Bool} (h : b = false) : (bif b then c else false) = false := by rw [h]; rfl
theorem bif_tt {b c : Bool} (h : b = true) : (bif b then true else c) = true := by rw [h]; rfl

theorem UMul_nil {a b : PV} {k : Int} : CallSpec Tryz.pr.P Tryz.pr.G 12 [nilP, a, b, i64 k] (.tup 2 (two nilS (i64 2))) := by
  refine callSpec_of Tryz.pr Tryz.func12 rfl rfl rfl fun w0 ok0 hok hG => ?_
  refine ev_rs [] rfl trivial ?_
  refine ev_seq (ev_rs [] rfl trivial (ev_ct rfl ?_))
  exact ev_rs [] rfl trivial (ev_ret (ret2 (fz_p (PLe.refl _)) (fz_p (PLe.refl _))))

theorem Mul_way0 {p : Nat} (hm : MayM p) (a b : List Nat) (hl : a.length < 200) (hl2 : b.length < 200) : CallSpec Tryz.pr.P Tryz.pr.G 12 [polyF p, u64s a, u64s b, i64 0] (.tup 2 (two (u64s (timesN p (normN p a) (normN p b))) (i64 0))) := by
  have la := length_normN p a
  have lb := length_normN p b
  have hNa := Norm_spec hm a (by omega)
  have hNb := Norm_spec hm b (by omega)
  generalize normN p a = na at *
  generalize normN p b = nb at *
  refine callSpec_of Tryz.pr Tryz.func12 rfl rfl rfl fun w0 ok0 hok hG => ?_
  refine ev_rs [] rfl trivial ?_
  refine ev_seq (ev_rs [] rfl trivial (ev_cf rfl (ev_sk ?_)))
  refine ev_rs [u64s na, u64s nb] rfl ⟨.inl hNb, .inl hNa, trivial⟩ ?_
  refine ev_seq (ev_rs [] rfl trivial (ev_block (ev_seq (ev_block (ev_seq (ev_block (ev_seq (ev_block (ev_seq (ev_block (ev_seq (ev_seq (ev_rs [] rfl trivial (ev_ct rfl (ev_exit ?_)))))))))))))))
  have hc : decide (IntKind.wrap .i64 ((na.length : Int) + (nb.length : Int)) ≥ 400) = false := decide_eq_false (by rw [wrapI _ (by omega) (by omega)]; omega)
  refine ev_rs [] rfl (by repeat' (first | exact trivial | exact gd_t | exact gd_f | exact (fun _ => rfl) | intro _ | apply And.intro | assumption | exact rfl | exact gd_t (by assumption) | exact gd_f (by assumption) | exact gd_a (by assumption) (by assumption) | exact gd_b (by assumption) (by assumption))) (ev_cf (congrArg (fun z => AV.p (PV.val (.bool z))) (bif_ff hc)) (ev_skip ?_))
  have := length_oneN p na nb
  refine ev_seq (ev_rs [u64s (oneN p na nb), u64s (timesN p na nb)] rfl ⟨.inl (trim_spec _ (by omega)), .inl (half_spec' hm na nb (by omega) (by omega)), trivial⟩ (ev_ret (ret2 (fz_p (PLe.refl _)) (fz_p (PLe.refl _)))))

theorem Mul_way2 {p : Nat} (hm : MayM p) (a b : List Nat) (hl : a.length < 50000) (hl2 : b.length < 50000) : CallSpec Tryz.pr.P Tryz.pr.G 12 [polyF p, u64s a, u64s b, i64 2] (.tup 2 (two (u64s (timesN p (normN p a) (normN p b))) (i64 0))) := by
  have la := length_normN p a
  have lb := length_normN p b
  have hNa := Norm_spec hm a (by omega)
  have hNb := Norm_spec hm b (by omega)
  generalize normN p a = na at *
  generalize normN p b = nb at *
  refine callSpec_of Tryz.pr Tryz.func12 rfl rfl rfl fun w0 ok0 hok hG => ?_
  refine ev_rs [] rfl trivial ?_
  refine ev_seq (ev_rs [] rfl trivial (ev_cf rfl (ev_sk ?_)))
  refine ev_rs [u64s na, u64s nb] rfl ⟨.inl hNb, .inl hNa, trivial⟩ ?_
  refine ev_seq (ev_rs [] rfl trivial (ev_block (ev_seq (ev_block (ev_seq (ev_block (ev_seq (ev_block (ev_seq (ev_block (ev_seq (ev_seq (ev_rs [] rfl trivial (ev_cf rfl (ev_sk ?_)))))))))))))))
  refine ev_seq (ev_rs [] rfl trivial (ev_ct rfl (ev_exit ?_)))
  have := length_oneN p na nb
  refine ev_seq (ev_rs [u64s (oneN p na nb), u64s (timesN p na nb)] rfl ⟨.inl (trim_spec _ (by omega)), .inl (half_spec' hm na nb (by omega) (by omega)), trivial⟩ (ev_ret (ret2 (fz_p (PLe.refl _)) (fz_p (PLe.refl _)))))

theorem Mul_way1 {p : Nat} (hm : MayM p) (a b : List Nat) (hl : a.length < 50000) (hl2 : b.length < 50000) : CallSpec Tryz.pr.P Tryz.pr.G 12 [polyF p, u64s a, u64s b, i64 1] (.tup 2 (two (u64s (timesN p (normN p a) (normN p b))) (i64 0))) := by
  have la := length_normN p a
  have lb := length_normN p b
  have hNa := Norm_spec hm a (by omega)
  have hNb := Norm_spec hm b (by omega)
  generalize normN p a = na at *
  generalize normN p b = nb at *
  refine callSpec_of Tryz.pr Tryz.func12 rfl rfl rfl fun w0 ok0 hok hG => ?_
  refine ev_rs [] rfl trivial ?_
  refine ev_seq (ev_rs [] rfl trivial (ev_cf rfl (ev_sk ?_)))
  refine ev_rs [u64s na, u64s nb] rfl ⟨.inl hNb, .inl hNa, trivial⟩ ?_
  refine ev_seq (ev_rs [] rfl trivial (ev_block (ev_seq (ev_block (ev_seq (ev_block (ev_seq (ev_block (ev_seq (ev_block (ev_seq (ev_seq (ev_rs [] rfl trivial (ev_cf rfl (ev_sk ?_)))))))))))))))
  refine ev_seq (ev_rs [] rfl trivial (ev_cf rfl (ev_sk ?_)))
  refine ev_seq (ev_rs [] rfl trivial (ev_ct rfl (ev_exit ?_)))
  have := length_oneN p na nb
  refine ev_seq (ev_rs [u64s (oneN p na nb), u64s (timesN p na nb)] rfl ⟨.inl (trim_spec _ (by omega)), .inl (one_spec hm na nb (by omega) (by omega)), trivial⟩ (ev_ret (ret2 (fz_p (PLe.refl _)) (fz_p (PLe.refl _)))))

end Go.Proofs

/- The laws of upoly: no field. -/
set_option linter.unusedVariables false
namespace Go.Proofs
open Go Vinc Vinc.Num

theorem DivM_nil {a b : List Nat} : CallSpec Tryz.pr.P Tryz.pr.G 17 [nilP, u64s a, u64s b] (.tup 3 (three nilS nilS (i64 2))) := by
  refine callSpec_of Tryz.pr Tryz.func17 rfl rfl rfl fun w0 ok0 hok hG => ?_
  refine ev_rs [] rfl trivial ?_
  refine ev_seq (ev_rs [] rfl trivial (ev_ct rfl ?_))
  exact ev_rs [] rfl trivial (ev_ret (ret3 (fz_p (PLe.refl _)) (fz_p (PLe.refl _)) (fz_p (PLe.refl _))))

theorem PowMod_nil {a b : List Nat} {n : Nat} : CallSpec Tryz.pr.P Tryz.pr.G 25 [nilP, u64s a, u64 n, u64s b] (.tup 2 (two nilS (i64 2))) := by
  refine callSpec_of Tryz.pr Tryz.func25 rfl rfl rfl fun w0 ok0 hok hG => ?_
  refine ev_rs [] rfl trivial ?_
  refine ev_seq (ev_rs [] rfl trivial (ev_ct rfl ?_))
  exact ev_rs [] rfl trivial (ev_ret (ret2 (fz_p (PLe.refl _)) (fz_p (PLe.refl _))))

theorem Ext_nil {a b : List Nat} : CallSpec Tryz.pr.P Tryz.pr.G 24 [nilP, u64s a, u64s b] (.tup 3 (three (u64s []) (u64s []) (u64s []))) := by
  refine callSpec_of Tryz.pr Tryz.func24 rfl rfl rfl fun w0 ok0 hok hG => ?_
  refine ev_rs [] rfl trivial ?_
  refine ev_seq (ev_rs [] rfl trivial (ev_ct rfl ?_))
  exact ev_rs [] rfl trivial (ev_ret (ret3 (fz_p PLe.nil) (fz_p PLe.nil) (fz_p PLe.nil)))

theorem UP_nil  : CallSpec Tryz.pr.P Tryz.pr.G 26 [nilP] (u64 0) := by
  refine callSpec_of Tryz.pr Tryz.func26 rfl rfl rfl fun w0 ok0 hok hG => ?_
  refine ev_rs [] rfl trivial ?_
  refine ev_seq (ev_rs [] rfl trivial (ev_ct rfl ?_))
  exact ev_rs [] rfl trivial (ev_ret (ret1 (fz_p (PLe.refl _))))

theorem UNorm_nil {a : List Nat} : CallSpec Tryz.pr.P Tryz.pr.G 19 [nilP, u64s a] (u64s []) := by
  refine callSpec_of Tryz.pr Tryz.func19 rfl rfl rfl fun w0 ok0 hok hG => ?_
  refine ev_rs [] rfl trivial ?_
  refine ev_seq (ev_rs [] rfl trivial (ev_ct rfl ?_))
  exact ev_rs [] rfl trivial (ev_ret (ret1 (fz_p PLe.nil)))

theorem Deg_nil {a : List Nat} : CallSpec Tryz.pr.P Tryz.pr.G 16 [nilP, u64s a] (i64 0) := by
  refine callSpec_of Tryz.pr Tryz.func16 rfl rfl rfl fun w0 ok0 hok hG => ?_
  refine ev_rs [] rfl trivial ?_
  refine ev_seq (ev_rs [] rfl trivial (ev_ct rfl ?_))
  exact ev_rs [] rfl trivial (ev_ret (ret1 (fz_p (PLe.refl _))))

theorem UAdd_nil {a b : List Nat} : CallSpec Tryz.pr.P Tryz.pr.G 18 [nilP, u64s a, u64s b] (u64s []) := by
  refine callSpec_of Tryz.pr Tryz.func18 rfl rfl rfl fun w0 ok0 hok hG => ?_
  refine ev_rs [] rfl trivial ?_
  refine ev_seq (ev_rs [] rfl trivial (ev_ct rfl ?_))
  exact ev_rs [] rfl trivial (ev_ret (ret1 (fz_p PLe.nil)))

theorem USub_nil {a b : List Nat} : CallSpec Tryz.pr.P Tryz.pr.G 27 [nilP, u64s a, u64s b] (u64s []) := by
  refine callSpec_of Tryz.pr Tryz.func27 rfl rfl rfl fun w0 ok0 hok hG => ?_
  refine ev_rs [] rfl trivial ?_
  refine ev_seq (ev_rs [] rfl trivial (ev_ct rfl ?_))
  exact ev_rs [] rfl trivial (ev_ret (ret1 (fz_p PLe.nil)))

theorem Gcd_nil {a b : List Nat} : CallSpec Tryz.pr.P Tryz.pr.G 28 [nilP, u64s a, u64s b] (u64s []) := by
  refine callSpec_of Tryz.pr Tryz.func28 rfl rfl rfl fun w0 ok0 hok hG => ?_
  refine ev_rs [] rfl trivial ?_
  refine ev_seq (ev_rs [] rfl trivial (ev_ct rfl ?_))
  exact ev_rs [] rfl trivial (ev_ret (ret1 (fz_p PLe.nil)))

theorem Eval_nil {a : List Nat} {x : Nat} : CallSpec Tryz.pr.P Tryz.pr.G 21 [nilP, u64s a, u64 x] (u64 0) := by
  refine callSpec_of Tryz.pr Tryz.func21 rfl rfl rfl fun w0 ok0 hok hG => ?_
  refine ev_rs [] rfl trivial ?_
  refine ev_seq (ev_rs [] rfl trivial (ev_ct rfl ?_))
  exact ev_rs [] rfl trivial (ev_ret (ret1 (fz_p (PLe.refl _))))

theorem Derive_nil {a : List Nat} : CallSpec Tryz.pr.P Tryz.pr.G 20 [nilP, u64s a] (u64s []) := by
  refine callSpec_of Tryz.pr Tryz.func20 rfl rfl rfl fun w0 ok0 hok hG => ?_
  refine ev_rs [] rfl trivial ?_
  refine ev_seq (ev_rs [] rfl (by repeat' (first | exact trivial | exact gd_t | exact gd_f | exact (fun _ => rfl) | intro _ | apply And.intro | assumption | exact rfl | exact gd_t (by assumption) | exact gd_f (by assumption) | exact gd_a (by assumption) (by assumption) | exact gd_b (by assumption) (by assumption))) (ev_ct rfl ?_))
  exact ev_rs [] rfl trivial (ev_ret (ret1 (fz_p PLe.nil)))

theorem Monic_nil {a : List Nat} : CallSpec Tryz.pr.P Tryz.pr.G 29 [nilP, u64s a] (u64s []) := by
  refine callSpec_of Tryz.pr Tryz.func29 rfl rfl rfl fun w0 ok0 hok hG => ?_
  refine ev_rs [] rfl trivial ?_
  refine ev_rs [u64s []] rfl ⟨.inl UNorm_nil, trivial⟩ ?_
  refine ev_seq (ev_rs [] rfl trivial (ev_ct rfl ?_))
  exact ev_rs [] rfl trivial (ev_ret (ret1 (fz_p PLe.nil)))

theorem bif5 : ∀ a b : Bool, (bif a then true else b) = false → a = false ∧ b = false := by decide

set_option maxRecDepth 100000 in
theorem UpolyNil_spec (a b : List Nat) (n : Nat) : CallSpec Tryz.pr.P Tryz.pr.G 8 [u64s a, u64s b, u64 n] (Vinc.bool true) := by
  refine callSpec_of Tryz.pr Tryz.func8 rfl rfl rfl fun w0 ok0 hok hG => ?_
  refine ev_rs [] rfl trivial ?_
  refine ev_seq (ev_rs [] rfl (by repeat' (first | exact trivial | exact gd_t | exact gd_f | exact (fun _ => rfl) | intro _ | apply And.intro | assumption | exact rfl | exact gd_t (by assumption) | exact gd_f (by assumption) | exact gd_a (by assumption) (by assumption) | exact gd_b (by assumption) (by assumption))) (ev_cond rfl (fun h => ?_) (fun h => ev_sk ?_)))
  · exact ev_rs [Vinc.bool true] rfl ⟨.inl awake_spec, trivial⟩ (ev_ret (ret1 (fz_p (PLe.refl _))))
  refine ev_rs [] rfl trivial ?_
  refine ev_rs [.tup 2 (two nilS (i64 2))] rfl ⟨.inl UMul_nil, trivial⟩ ?_
  refine ev_rs [.tup 3 (three nilS nilS (i64 2))] rfl ⟨.inl DivM_nil, trivial⟩ ?_
  refine ev_rs [.tup 2 (two nilS (i64 2))] rfl ⟨.inl PowMod_nil, trivial⟩ ?_
  refine ev_rs [.tup 3 (three (u64s []) (u64s []) (u64s []))] rfl ⟨.inl Ext_nil, trivial⟩ ?_
  exact ev_rs [u64 0, u64s [], i64 0, u64s [], u64s [], u64s [], u64 0, u64s [], u64s [], Vinc.bool true] rfl
    (by repeat' (first | exact trivial | exact gd_t | exact gd_f | exact .inl UP_nil | exact .inl UNorm_nil | exact .inl Deg_nil | exact .inl UAdd_nil | exact .inl USub_nil | exact .inl Gcd_nil | exact .inl Eval_nil | exact .inl Derive_nil | exact .inl Monic_nil | exact .inl awake_spec | exact (fun _ => rfl) | intro _ | apply And.intro | assumption | exact rfl | exact gd_t (by assumption) | exact gd_f (by assumption) | exact gd_a (by assumption) (by assumption) | exact gd_b (by assumption) (by assumption))) (ev_ret (ret1 (fz_p (PLe.of_eq rfl))))

end Go.Proofs

/- Polynomials over a field of words, walked: derivatives, values, powers, the two polynomials. -/
set_option linter.unusedVariables false
namespace Go.Proofs
open Go Vinc Vinc.Num

theorem Derive_spec {p : Nat} (hm : MayM p) (a : List Nat) (hl : a.length < 100000) : CallSpec Tryz.pr.P Tryz.pr.G 20 [polyF p, u64s a] (u64s (deriveN p a)) := by
  refine callSpec_of Tryz.pr Tryz.func20 rfl rfl rfl fun w0 ok0 hok hG => ?_
  refine ev_rs [] rfl trivial ?_
  refine ev_seq (ev_rs [] rfl (by repeat' (first | exact trivial | exact gd_t | exact gd_f | exact (fun _ => rfl) | intro _ | apply And.intro | assumption | exact rfl | exact gd_t (by assumption) | exact gd_f (by assumption) | exact gd_a (by assumption) (by assumption) | exact gd_b (by assumption) (by assumption))) (ev_cond rfl (fun h => ?_) (fun h => ev_sk ?_)))
  · have h : (((a.length : Nat) : Int) == 0) = true := h
    have h0 : a.length = 0 := Int.ofNat_inj.mp (beq_iff_eq.mp h)
    have e : a = [] := List.eq_nil_of_length_eq_zero h0
    rw [e]
    exact ev_rs [] rfl trivial (ev_ret (ret1 (fz_p PLe.nil)))
  have h : (((a.length : Nat) : Int) == 0) = false := h
  have h0 : a.length ≠ 0 := fun e => (beq_eq_false_iff_ne.mp h) (congrArg (fun n : Nat => (n : Int)) e)
  obtain ⟨L, hL⟩ : ∃ L, a.length - 1 = L := ⟨_, rfl⟩
  obtain ⟨f, hf⟩ : ∃ f : Nat → Nat, f = fun i => a.getD (i + 1) 0 * (i + 1) % p := ⟨_, rfl⟩
  have hD : deriveN p a = trimN (tabL f L) := by rw [hf, ← hL]; rfl
  rw [hD]
  have e1 : IntKind.wrap .i64 ((a.length : Int) - 1) = (L : Int) := by rw [wrapI _ (by omega) (by omega)]; omega
  refine ev_rs [] rfl ?_ ?_
  · rw [e1]
    exact ⟨⟨by omega, by omega, by omega⟩, trivial⟩
  refine ev_made 5 17 L rfl rfl (show (IntKind.wrap .i64 ((a.length : Int) - 1)).toNat = _ by rw [e1]; rfl) ?_
  refine ev_at (α := Unit) (fun _ => True) (fun _ => [(5, .p (u64s (tabL f L)))]) (fun _ => []) ?_ ?_
  · refine ev_rs [] rfl trivial ?_
    refine ev_block (ev_while (α := Nat) (fun i => i ≤ L) (fun i => [(0, .p (polyF p)), (1, .p (u64s a)), (5, .own 17 0 L 1), (19, .p (i64 L)), (20, .p (i64 i))]) (fun i => [(17, ob64 (tabK f L i))]) (fun i => L - i) 0
      (Nat.zero_le _) (wk_ob rfl (fun hd => ⟨le_refl hd _, le_refl hd _, le_o rfl, le_refl hd _, le_refl hd _, trivial⟩)) ?_)
    rintro i h1
    refine ev_rs [] rfl trivial (ev_seq (ev_cond rfl (fun h => ev_sk ?_) (fun h => ev_exit ?_)))
    · have hi : i < L := Int.ofNat_lt.mp (of_decide_eq_true h)
      have hck := length_tabK f L i
      have hfi : f i = a.getD (i + 1) 0 * (i + 1) % p := by rw [hf]
      have e2 : IntKind.wrap .i64 ((i : Int) + 1) = ((i + 1 : Nat) : Int) := by rw [wrapI _ (by omega) (by omega)]; rfl
      have e3 : IntKind.wrap .u64 ((i + 1 : Nat) : Int) = ((i + 1 : Nat) : Int) := by rw [wrapN, Nat.mod_eq_of_lt (by omega)]
      refine ev_seq (ev_block ?_)
      refine ev_rs [] rfl trivial ?_
      refine ev_draw [u64 (f i)] (by kernel_rfl) rfl rfl ?_ ?_
      · rw [e2, e3, hfi]
        exact ⟨(by omega : i + 1 ≤ (tabK f L i).length), ⟨by omega, by omega⟩, .inl (Mul_spec hm _ _), (by omega : i + 1 < a.length), ⟨by omega, by omega⟩, Nat.zero_lt_one, trivial⟩
      refine ev_set 17 i (f i) rfl rfl rfl (by omega) ?_
      exact ev_region [] rfl trivial ⟨i + 1, hi, by dsimp only; omega, wk_ob rfl (fun hd => ⟨le_refl hd _, le_refl hd _, le_o rfl, le_refl hd _, le_n hd (congrArg (fun z => PV.val (.int .i64 z)) (wrapI _ (by omega) (by omega))), trivial⟩)⟩
    · have hi : i = L := by
        have := of_decide_eq_false h
        omega
      subst hi
      exact at0 () trivial ⟨le_fz' rfl (length_tabK f i i).symm (tabK_all f i), trivial⟩
  rintro ⟨⟩ -
  exact ev_rs [u64s (trimN (tabL f L))] rfl ⟨.inl (trim_spec _ (by rw [length_tabL]; omega)), trivial⟩ (ev_ret (ret1 (fz_p (PLe.refl _))))

theorem Eval_spec {p : Nat} (hm : MayM p) (a : List Nat) (x : Nat) (hl : a.length < 100000) : CallSpec Tryz.pr.P Tryz.pr.G 21 [polyF p, u64s a, u64 x] (u64 (evalF p x a a.length)) := by
  refine callSpec_of Tryz.pr Tryz.func21 rfl rfl rfl fun w0 ok0 hok hG => ?_
  refine ev_rs [] rfl trivial ?_
  refine ev_seq (ev_rs [] rfl trivial (ev_cf rfl (ev_sk ?_)))
  refine ev_rs [] rfl trivial ?_
  refine ev_at (α := Unit) (fun _ => True) (fun _ => [(7, .p (u64 (evalF p x a a.length)))]) (fun _ => []) ?_ ?_
  · refine ev_rs [] rfl trivial ?_
    refine ev_block (ev_while0 (α := Nat) (fun n => n ≤ a.length) (fun n => [(0, .p (polyF p)), (1, .p (u64s a)), (2, .p (u64 x)), (7, .p (u64 (evalF p x a n))), (8, .p (i64 ((a.length : Int) - 1 - n)))]) (fun n => a.length - n) 0
      (Nat.zero_le _) ⟨le_0, le_0, le_0, le_0, le_e (congrArg (fun z => PV.val (.int .i64 z)) (by rw [wrapI _ (by omega) (by omega)]; omega)), trivial⟩ ?_)
    rintro n h1
    refine ev_seq (ev_rs [] rfl trivial (ev_cond rfl (fun h => ev_sk ?_) (fun h => ev_exit ?_)))
    · have hn : n < a.length := by
        have := of_decide_eq_true h
        omega
      obtain ⟨i, hi⟩ : ∃ i, a.length - 1 - n = i := ⟨_, rfl⟩
      have hst : evalF p x a (n + 1) = (evalF p x a n * x % p + a.getD i 0) % p := by rw [← hi]; rfl
      refine ev_eq 8 (.p (i64 i)) (congrArg (fun z => AV.p (PV.val (.int .i64 z))) (by omega : (a.length : Int) - 1 - n = i)) ?_
      refine ev_seq (ev_block ?_)
      refine ev_draw [u64 (evalF p x a n * x % p), u64 (evalF p x a (n + 1))] (by kernel_rfl) rfl rfl ?_ ?_
      · rw [hst]
        exact ⟨.inl (Add_spec hm _ _), (by omega : i < a.length), ⟨by omega, by omega⟩, .inl (Mul_spec hm _ _), Nat.zero_lt_one, Nat.zero_lt_one, trivial⟩
      exact ev_region [] rfl trivial (round0 (n + 1) hn (by omega) ⟨le_0, le_0, le_0, le_0, le_e (congrArg (fun z => PV.val (.int .i64 z)) (by rw [wrapI _ (by omega) (by omega)]; omega)), trivial⟩)
    · have hn : n = a.length := by
        have := of_decide_eq_false h
        omega
      subst hn
      exact at0 () trivial ⟨le_0, trivial⟩
  rintro ⟨⟩ -
  exact ev_rs [] rfl trivial (ev_ret (ret1 (fz_p (PLe.refl _))))

theorem PowMod_zero {p : Nat} (hm : MayM p) (a : List Nat) (n : Nat) (b : List Nat) (hl : a.length < 100000) (hl2 : b.length < 100000) (hb0 : (normN p b).length = 0) :
    CallSpec Tryz.pr.P Tryz.pr.G 25 [polyF p, u64s a, u64 n, u64s b] (.tup 2 (two nilS (i64 10))) := by
  refine callSpec_of Tryz.pr Tryz.func25 rfl rfl rfl fun w0 ok0 hok hG => ?_
  refine ev_rs [] rfl trivial ?_
  refine ev_seq (ev_rs [] rfl trivial (ev_cf rfl (ev_sk ?_)))
  refine ev_rs [u64s (normN p a), u64s (normN p b)] rfl ⟨.inl (Norm_spec hm b (by omega)), .inl (Norm_spec hm a (by omega)), trivial⟩ ?_
  refine ev_seq (ev_rs [] rfl trivial (ev_cond rfl (fun h => ?_) (fun h => ?_)))
  · exact ev_rs [] rfl trivial (ev_ret (ret2 (fz_p (PLe.refl _)) (fz_p (PLe.refl _))))
  · exact absurd (congrArg (fun n : Nat => (n : Int)) hb0) (beq_eq_false_iff_ne.mp h)

end Go.Proofs

/- Polynomials over a field of words, walked: divisors with their polynomials. -/
set_option linter.unusedVariables false
namespace Go.Proofs
open Go Vinc Vinc.Num

theorem le_lit {c : Cx} {σ : St} {l : List (Nat × AV)} {i n : Nat} {o : Ob} {xs : List Nat} (h0 : σ.h i = some o) (hn : n = xs.length) (ho : xs.length ≤ o.n) (hf : ∀ j, j < xs.length → o.f j = .p (u64 (xs.getD j 0))) :
    Le c σ (mk l []) (fun i => i) (.own i 0 n 1) (.p (u64s xs)) := by
  subst hn
  exact le_freeze ren_nil h0 (by omega) (fun k hk => by cases hk) (fun j hj => by
    rw [Nat.zero_add, hf j (by omega)]
    exact le_refl ren_nil _)

theorem fz_lit {c : Cx} {σ : St} {i n : Nat} {o : Ob} {xs : List Nat} (h0 : σ.h i = some o) (hn : n = xs.length) (ho : xs.length ≤ o.n) (hf : ∀ j, j < xs.length → o.f j = .p (u64 (xs.getD j 0))) :
    FreezeLe c σ (.own i 0 n 1) (u64s xs) := by
  subst hn
  exact fz_own h0 (by omega) (fun j hj => by
    rw [Nat.zero_add, hf j (by omega)]
    exact fz_p (PLe.refl _))

/-- What is known of the last divisor and its polynomial. -/
theorem ext_facts {p : Nat} (hf : FdP p (minv p)) {a b : List Nat} (ha : Nz p a) (hb : Nz p b) (hb0 : 0 < b.length) {R S : List Nat} (hR : extF (minv p) p (b.length + 1) a [1] b [] = (R, S)) :
    Nz p R ∧ Nz p S ∧ 0 < R.length ∧ R.length ≤ b.length ∧ S.length ≤ a.length + b.length + 1 ∧ extR (minv p) p a b = (monicF (minv p) p R, remN (minv p) p (trimN (scaleL p S (minv p (R.getD (R.length - 1) 0)))) (divN (minv p) p b (monicF (minv p) p R)).1,
      (divN (minv p) p (subN p (monicF (minv p) p R) (timesN p (remN (minv p) p (trimN (scaleL p S (minv p (R.getD (R.length - 1) 0)))) (divN (minv p) p b (monicF (minv p) p R)).1) a)) b).1) := by
  have z := extF_nz hf (b.length + 1) a [1] b [] ha (Nz.one hf.prime.1) hb (Nz.nil hf.pos)
  have l := extF_len hf (b.length + 1) a [1] b [] b.length (by omega) ha (Nz.one hf.prime.1) hb (Nz.nil hf.pos) (Nat.le_refl _) (fun e => by omega)
  have l2 := (extF_bd (p := p) (iv := minv p) (a.length + b.length + 1) (b.length + 1) a [1] b [] (by simp; omega) (by simp; omega)).2
  rw [hR] at z l l2
  refine ⟨z.1, z.2, l.2, l.1, l2, ?_⟩
  unfold extR
  rw [if_neg (by omega), hR]

theorem Ext_spec {p : Nat} (hm : MayM p) (hf : FdP p (minv p)) (a b : List Nat) (hl : a.length < 1000) (hl2 : b.length < 1000) : CallSpec Tryz.pr.P Tryz.pr.G 24 [polyF p, u64s a, u64s b]
    (.tup 3 (three (u64s (extR (minv p) p (normN p a) (normN p b)).1) (u64s (extR (minv p) p (normN p a) (normN p b)).2.1) (u64s (extR (minv p) p (normN p a) (normN p b)).2.2))) := by
  have hp0 : 0 < p := hf.pos
  have la := length_normN p a
  have lb := length_normN p b
  have ha := Nz.norm hp0 a
  have hb := Nz.norm hp0 b
  have hNa := Norm_spec hm a (by omega)
  have hNb := Norm_spec hm b (by omega)
  generalize normN p a = na at *
  generalize normN p b = nb at *
  obtain ⟨X, hX⟩ : ∃ X, extR (minv p) p na nb = X := ⟨_, rfl⟩
  rw [hX]
  refine callSpec_of Tryz.pr Tryz.func24 rfl rfl rfl fun w0 ok0 hok hG => ?_
  refine ev_rs [] rfl trivial ?_
  refine ev_seq (ev_rs [] rfl trivial (ev_cf rfl (ev_sk ?_)))
  refine ev_rs [u64s na, u64s nb] rfl ⟨.inl hNb, .inl hNa, trivial⟩ ?_
  refine ev_seq (ev_rs [] rfl trivial (ev_cond rfl (fun h => ?_) (fun h => ev_sk ?_)))
  · have h0 : nb.length = 0 := Int.ofNat_inj.mp (beq_iff_eq.mp h)
    refine ev_seq (ev_rs [] rfl trivial (ev_cond rfl (fun h => ?_) (fun h => ev_sk ?_)))
    · have h1 : na.length = 0 := Int.ofNat_inj.mp (beq_iff_eq.mp h)
      have e : X = ([], [], []) := by rw [← hX]; unfold extR; rw [if_pos h0, if_pos h1]
      rw [e]
      exact ev_rs [] rfl trivial (ev_ret (ret3 (fz_p PLe.nil) (fz_p PLe.nil) (fz_p PLe.nil)))
    have h1 : 0 < na.length := Nat.pos_of_ne_zero fun e => (beq_eq_false_iff_ne.mp h) (congrArg (fun n : Nat => (n : Int)) e)
    have e : X = (monicF (minv p) p na, [minv p (na.getD (na.length - 1) 0)], []) := by rw [← hX]; unfold extR; rw [if_pos h0, if_neg (by omega)]
    rw [e]
    have e1 : IntKind.wrap .i64 ((na.length : Int) - 1) = ((na.length - 1 : Nat) : Int) := by rw [wrapI _ (by omega) (by omega)]; omega
    have hM := Monic_spec hm na (by omega)
    rw [ha.norm_id hp0] at hM
    refine ev_ds [.tup 2 (two (u64 (minv p (na.getD (na.length - 1) 0))) (i64 (wrong (na.getD (na.length - 1) 0) p)))] (by kernel_rfl) rfl rfl ?_ ?_
    · rw [e1]
      exact ⟨.inl (Inv_spec hm _), (by omega : na.length - 1 < na.length), ⟨by omega, by omega⟩, Nat.zero_lt_one, trivial⟩
    refine ev_rs [u64s (monicF (minv p) p na)] rfl ⟨.inl hM, trivial⟩ (ev_ret (ret3 (fz_p (PLe.refl _)) (fz_lit rfl rfl (Nat.le_refl 1) (fun j hj => ?_)) (fz_p PLe.nil)))
    match j, hj with
    | 0, _ => rfl
  have h0 : 0 < nb.length := Nat.pos_of_ne_zero fun e => (beq_eq_false_iff_ne.mp h) (congrArg (fun n : Nat => (n : Int)) e)
  obtain ⟨⟨R, S⟩, hR⟩ : ∃ RS, extF (minv p) p (nb.length + 1) na [1] nb [] = RS := ⟨_, rfl⟩
  obtain ⟨zR, zS, lR0, lR, lS, hE⟩ := ext_facts hf ha hb h0 hR
  rw [hX] at hE
  have h1z := Nz.one hf.prime.1
  refine ev_rs [] rfl trivial ?_
  refine ev_rs [] rfl trivial ?_
  refine ev_at (α := Unit) (fun _ => True) (fun _ => [(0, .p (polyF p)), (1, .p (u64s na)), (2, .p (u64s nb)), (11, .p (u64s R)), (12, .p (u64s S))]) (fun _ => []) ?_ ?_
  · refine ev_block (ev_while0 (α := Nat × List Nat × List Nat × List Nat × List Nat) (fun s => s.2.2.2.1.length ≤ s.1 ∧ (Nz p s.2.1 ∧ Nz p s.2.2.1 ∧ Nz p s.2.2.2.1 ∧ Nz p s.2.2.2.2) ∧ s.2.2.2.2.length + s.2.1.length ≤ na.length + nb.length + 1 ∧ s.2.2.1.length + s.2.2.2.1.length ≤ na.length + nb.length + 1 ∧ extF (minv p) p s.1 s.2.1 s.2.2.1 s.2.2.2.1 s.2.2.2.2 = (R, S))
      (fun s => [(0, .p (polyF p)), (1, .p (u64s na)), (2, .p (u64s nb)), (11, .p (u64s s.2.1)), (12, .p (u64s s.2.2.1)), (13, .p (u64s s.2.2.2.1)), (14, .p (u64s s.2.2.2.2))]) (fun s => s.1) (nb.length + 1, na, [1], nb, [])
      ⟨by dsimp only; omega, ⟨ha, h1z, hb, Nz.nil hp0⟩, by simp; omega, by simp; omega, hR⟩ ⟨le_0, le_0, le_0, le_0, le_lit rfl rfl (Nat.le_refl 1) (fun j hj => by match j, hj with | 0, _ => rfl), le_0, le_p ren_nil PLe.nil, trivial⟩ ?_)
    rintro ⟨f, r, s, x, y⟩ ⟨h1, ⟨h2, h3, h4, h5⟩, h6, h7, h8⟩
    dsimp only at h1 h2 h3 h4 h5 h6 h7 h8
    refine ev_seq (ev_rs [] rfl trivial (ev_cond rfl (fun h => ev_sk ?_) (fun h => ev_exit ?_)))
    · have hx : 0 < x.length := Int.ofNat_lt.mp (of_decide_eq_true h)
      obtain ⟨f, rfl⟩ : ∃ g, f = g + 1 := ⟨f - 1, by omega⟩
      have hr := remN_nz hf h2 h4 hx
      have hst : extF (minv p) p f x y (remN (minv p) p r x) (subN p s (timesN p (divN (minv p) p r x).1 y)) = (R, S) := by rw [← h8]; exact (if_neg (by omega)).symm
      have hk := ext_step (p := p) (iv := minv p) hx h6 h7
      have lq := divN_len (minv p) p r x
      have lt := timesN_len p (divN (minv p) p r x).1 y
      have lt' : (timesN p (divN (minv p) p r x).1 y).length ≤ (divN (minv p) p r x).1.length + y.length := by split at lt <;> omega
      have hC1 := times_all hm (divN (minv p) p r x).1 y (by omega) (by omega)
      have hC2 := USub_spec hm s (timesN p (divN (minv p) p r x).1 y) (by omega) (by omega)
      refine ev_block ?_
      refine ev_rs [.tup 2 (two (u64s (divN (minv p) p r x).1) (u64s (remN (minv p) p r x)))] rfl ⟨.inl (divide_spec hm r x hx (by omega) (by omega)), trivial⟩ ?_
      refine ev_rs [] rfl trivial ?_
      exact ev_region [u64s (timesN p (divN (minv p) p r x).1 y), u64s (subN p s (timesN p (divN (minv p) p r x).1 y))] rfl ⟨.inl hC2, .inl hC1, trivial⟩ (round0 (f, x, y, remN (minv p) p r x, subN p s (timesN p (divN (minv p) p r x).1 y)) ⟨by have := hr.2; dsimp only; omega, ⟨h4, h5, hr.1, subN_nz hp0 _ _⟩, hk.1, hk.2, hst⟩ (Nat.lt_succ_self f) ⟨le_0, le_0, le_0, le_0, le_0, le_0, le_0, trivial⟩)
    · have hx : x.length = 0 := by
        have := of_decide_eq_false h
        dsimp only at this
        omega
      have hrs : (r, s) = (R, S) := by
        rw [← h8]
        cases f with
        | zero => rfl
        | succ f => exact (if_pos hx).symm
      exact at0 () trivial ⟨le_0, le_0, le_0, le_e (congrArg u64s (congrArg Prod.fst hrs)), le_e (congrArg u64s (congrArg Prod.snd hrs)), trivial⟩
  rintro ⟨⟩ -
  have e1 : IntKind.wrap .i64 ((R.length : Int) - 1) = ((R.length - 1 : Nat) : Int) := by rw [wrapI _ (by omega) (by omega)]; omega
  have hM := Monic_spec hm R (by omega)
  rw [zR.norm_id hp0] at hM
  have hg0 := monicF_pos hf zR lR0
  have hgl := monicF_len (p := p) (iv := minv p) R
  have hgz := monicF_nz (iv := minv p) hp0 R
  obtain ⟨i, hi⟩ : ∃ i, minv p (R.getD (R.length - 1) 0) = i := ⟨_, rfl⟩
  have hI : ∀ b t : Nat, CallSpec Tryz.pr.P Tryz.pr.G 43 [fld p b t, u64 (R.getD (R.length - 1) 0)] (.tup 2 (two (u64 i) (i64 (wrong (R.getD (R.length - 1) 0) p)))) := fun b t => hi ▸ Inv_spec hm _
  rw [hi] at hE
  generalize monicF (minv p) p R = g at *
  have hq0 := quot_pos hf hb hgz hg0 (by omega)
  have hdz := hf.div hb hgz hg0
  have hql := divN_len (minv p) p nb g
  have hsc := trimL_le (scaleL p S i) (scaleL p S i).length
  rw [length_scaleL] at hsc
  have hD1 := divide_spec hm nb g hg0 (by omega) (by omega)
  have hScl := scale_spec hm S i (by omega)
  have hSz : Nz p (trimN (scaleL p S i)) := Nz.of_trim (scaleL_lt hp0 _ _)
  have hSl : (trimN (scaleL p S i)).length ≤ S.length := by rw [length_trimN, length_scaleL]; exact hsc
  generalize trimN (scaleL p S i) = sc at *
  obtain ⟨⟨q, q'⟩, hq⟩ : ∃ q, divN (minv p) p nb g = q := ⟨_, rfl⟩
  rw [hq] at hE hq0 hdz hql hD1
  have hD2 := divide_spec hm sc q hq0 (by omega) (by have := hql.1; dsimp only at this; omega)
  have hs2 := remN_nz hf hSz hdz.1 hq0
  have hs2 : Nz p (divN (minv p) p sc q).2 ∧ (divN (minv p) p sc q).2.length < q.length := hs2
  have hE : X = (g, (divN (minv p) p sc q).2, (divN (minv p) p (subN p g (timesN p (divN (minv p) p sc q).2 na)) nb).1) := hE
  obtain ⟨⟨s1, s2⟩, hs⟩ : ∃ z, divN (minv p) p sc q = z := ⟨_, rfl⟩
  rw [hs] at hE hs2 hD2
  have l2 : s2.length < nb.length + 1 := by have := hql.1; have := hs2.2; dsimp only at *; omega
  have hT := times_all hm s2 na (by omega) (by omega)
  have hTl := timesN_len p s2 na
  have hTl' : (timesN p s2 na).length ≤ s2.length + na.length := by split at hTl <;> omega
  have hS := USub_spec hm g (timesN p s2 na) (by omega) (by omega)
  have hSl2 := subN_len p g (timesN p s2 na)
  have hD3 := divide_spec hm (subN p g (timesN p s2 na)) nb h0 (by omega) (by omega)
  have hE : X = (g, s2, (divN (minv p) p (subN p g (timesN p s2 na)) nb).1) := hE
  rw [hE]
  generalize timesN p s2 na = ts at *
  generalize subN p g ts = gs at *
  refine ev_ds [.tup 2 (two (u64 i) (i64 (wrong (R.getD (R.length - 1) 0) p)))] (by kernel_rfl) rfl rfl ?_ ?_
  · rw [e1]
    exact ⟨(.inl (hI _ _)), (by omega : R.length - 1 < R.length), ⟨by omega, by omega⟩, Nat.zero_lt_one, trivial⟩
  refine ev_rs [u64s g] rfl ⟨.inl hM, trivial⟩ ?_
  refine ev_rs [.tup 2 (two (u64s q) (u64s q'))] rfl ⟨.inl hD1, trivial⟩ ?_
  refine ev_rs [u64s sc, .tup 2 (two (u64s s1) (u64s s2))] rfl ⟨.inl hD2, .inl hScl, trivial⟩ ?_
  refine ev_rs [u64s ts, u64s gs, .tup 2 (two (u64s (divN (minv p) p gs nb).1) (u64s (divN (minv p) p gs nb).2))] rfl ⟨.inl hD3, .inl hS, .inl hT, trivial⟩ ?_
  exact ev_rs [] rfl trivial (ev_ret (ret3 (fz_p (PLe.refl _)) (fz_p (PLe.refl _)) (fz_p (PLe.refl _))))

end Go.Proofs

/- The laws of upoly: back; divisors with their polynomials. -/
set_option linter.unusedVariables false
namespace Go.Proofs
open Go Vinc Vinc.Num

theorem same_t (x : List Nat) (hx : x.length < 1000000) : CallSpec Tryz.pr.P Tryz.pr.G 13 [u64s x, u64s x] (Vinc.bool true) := by
  have := Same_spec x x hx hx
  rwa [decide_eq_true rfl] at this

theorem bif_t2 {a b : Bool} (h : b = true) : (bif a then true else b) = true := by rw [h]; cases a <;> rfl

set_option maxRecDepth 100000 in
theorem UpolyBack_spec (p : Nat) (a b : List Nat) (hp : p < 18446744073709551616) : CallSpec Tryz.pr.P Tryz.pr.G 5 [u64 p, u64s a, u64s b] (Vinc.bool true) := by
  refine callSpec_of Tryz.pr Tryz.func5 rfl rfl rfl fun w0 ok0 hok hG => ?_
  refine ev_rs [] rfl trivial ?_
  by_cases hA : Asked p
  · have hm := asked_may hA
    have hf := asked_fd hA
    have hp0 := hf.pos
    refine ev_rs [.tup 2 (two (polyF p) (Vinc.bool true))] rfl ⟨.inl (field_t hA), trivial⟩ ?_
    refine ev_seq (ev_rs [] rfl trivial (ev_cf rfl (ev_sk ?_)))
    by_cases hlen : b.length < 100000
    · have hDb := Deg_spec hm b hlen
      refine ev_seq (ev_rs [i64 (((normN p b).length : Int) - 1)] rfl (by repeat' (first | exact trivial | exact gd_t | exact gd_f | exact .inl hDb | exact (fun _ => rfl) | intro _ | apply And.intro | assumption | exact rfl | exact gd_t (by assumption) | exact gd_f (by assumption) | exact gd_a (by assumption) (by assumption) | exact gd_b (by assumption) (by assumption))) (ev_cond rfl (fun h => ?_) (fun h => ev_sk ?_)))
      · exact ev_rs [Vinc.bool true] rfl ⟨.inl awake_spec, trivial⟩ (ev_ret (ret1 (fz_p (PLe.refl _))))
      obtain ⟨g1, g4⟩ := bif5 _ _ h
      obtain ⟨g1, g3⟩ := bif5 _ _ g1
      obtain ⟨g1, g2⟩ := bif5 _ _ g1
      have ha : a.length ≤ 60 := by have := of_decide_eq_false g2; omega
      have hb : b.length ≤ 60 := by have := of_decide_eq_false g3; omega
      have hb0 : 0 < (normN p b).length := by have := of_decide_eq_false g4; omega
      have la := length_normN p a
      have lb := length_normN p b
      have hna := Nz.norm hp0 a
      have hnb := Nz.norm hp0 b
      have hD := DivM_ok hm a b (by omega) (by omega) hb0
      have hMl := timesN_len p (normN p a) (normN p b)
      have hMl' : (timesN p (normN p a) (normN p b)).length ≤ (normN p a).length + (normN p b).length := by split at hMl <;> omega
      have hM2 := Mul_way0 hm a b (by omega) (by omega)
      have hD2 := DivM_ok hm (timesN p (normN p a) (normN p b)) b (by omega) (by omega) hb0
      rw [(timesN_nz hp0 (normN p a) (normN p b)).norm_id hp0, hf.exact hna hnb hb0] at hD2
      have hN := Norm_spec hm a (by omega)
      have hbk := hf.back hna hnb hb0
      have hdv := hf.div hna hnb hb0
      have lq := divN_len (minv p) p (normN p a) (normN p b)
      obtain ⟨⟨q, r⟩, hqr⟩ : ∃ z, divN (minv p) p (normN p a) (normN p b) = z := ⟨_, rfl⟩
      rw [hqr] at hD hbk hdv lq
      dsimp only at hD hbk hdv lq
      have hM1 := Mul_way0 hm q b (by omega) (by omega)
      rw [hdv.1.norm_id hp0] at hM1
      have hTl := timesN_len p q (normN p b)
      have hTl' : (timesN p q (normN p b)).length ≤ q.length + (normN p b).length := by split at hTl <;> omega
      have hAd := UAdd_spec hm (timesN p q (normN p b)) r (by omega) (by omega)
      rw [hbk] at hAd
      have hDr := Deg_spec hm r (by omega)
      rw [hdv.2.1.norm_id hp0] at hDr
      have hS := same_t (normN p a) (by omega)
      have hrl := hdv.2.2.1
      generalize timesN p (normN p a) (normN p b) = m2 at *
      generalize timesN p q (normN p b) = m1 at *
      generalize normN p a = na at *
      generalize normN p b = nb at *
      refine ev_rs [.tup 3 (three (u64s q) (u64s r) (i64 0))] rfl ⟨.inl hD, trivial⟩ ?_
      refine ev_rs [.tup 2 (two (u64s m1) (i64 0))] rfl ⟨.inl hM1, trivial⟩ ?_
      refine ev_seq (ev_rs [u64s na, u64s na, Vinc.bool true, i64 ((r.length : Int) - 1), i64 ((nb.length : Int) - 1)] rfl (by repeat' (first | exact trivial | exact gd_t | exact gd_f | exact .inl hAd | exact .inl hN | exact .inl hS | exact .inl hDr | exact .inl hDb | exact (fun _ => rfl) | intro _ | apply And.intro | assumption | exact rfl | exact gd_t (by assumption) | exact gd_f (by assumption) | exact gd_a (by assumption) (by assumption) | exact gd_b (by assumption) (by assumption))) (ev_cond rfl (fun h => ?_) (fun h => ev_sk ?_)))
      · exfalso
        have h : decide (((r.length : Int) - 1) ≥ ((nb.length : Int) - 1)) = true := h
        have := of_decide_eq_true h
        omega
      refine ev_rs [.tup 2 (two (u64s m2) (i64 0))] rfl ⟨.inl hM2, trivial⟩ ?_
      refine ev_rs [.tup 3 (three (u64s na) (u64s []) (i64 0))] rfl ⟨.inl hD2, trivial⟩ ?_
      exact ev_rs [u64s na, Vinc.bool true, Vinc.bool true] rfl (by repeat' (first | exact trivial | exact gd_t | exact gd_f | exact .inl hN | exact .inl hS | exact .inl awake_spec | exact (fun _ => rfl) | intro _ | apply And.intro | assumption | exact rfl | exact gd_t (by assumption) | exact gd_f (by assumption) | exact gd_a (by assumption) (by assumption) | exact gd_b (by assumption) (by assumption))) (ev_ret (ret1 (fz_p (PLe.of_eq rfl))))
    · have hc : decide ((b.length : Int) > 60) = true := decide_eq_true (by omega)
      refine ev_seq (ev_rs [i64 0] rfl ?_ (ev_ct (congrArg (fun z => AV.p (PV.val (.bool z))) (bif_tt (bif_t2 hc))) ?_))
      · have hcc : ∀ x : Bool, (bif x then true else decide ((b.length : Int) > 60)) = true := fun x => bif_t2 hc
        repeat' (first | exact trivial | exact gd_t | exact gd_f | exact (fun e => absurd e (by rw [hcc]; decide)) | exact (fun _ => rfl) | intro _ | apply And.intro | assumption | exact rfl | exact gd_t (by assumption) | exact gd_f (by assumption) | exact gd_a (by assumption) (by assumption))
      exact ev_rs [Vinc.bool true] rfl ⟨.inl awake_spec, trivial⟩ (ev_ret (ret1 (fz_p (PLe.refl _))))
  · refine ev_rs [.tup 2 (two nilP (Vinc.bool true))] rfl ⟨.inl (field_f hp hA), trivial⟩ ?_
    refine ev_seq (ev_rs [] rfl trivial (ev_cf rfl (ev_sk ?_)))
    refine ev_seq (ev_rs [i64 0] rfl (by repeat' (first | exact trivial | exact gd_t | exact gd_f | exact .inl Deg_nil | exact (fun _ => rfl) | intro _ | apply And.intro | assumption | exact rfl | exact gd_t (by assumption) | exact gd_f (by assumption) | exact gd_a (by assumption) (by assumption) | exact gd_b (by assumption) (by assumption))) (ev_ct rfl ?_))
    exact ev_rs [Vinc.bool true] rfl ⟨.inl awake_spec, trivial⟩ (ev_ret (ret1 (fz_p (PLe.refl _))))

set_option maxRecDepth 100000 in
set_option maxHeartbeats 1000000 in
theorem UpolyBezout_spec (p : Nat) (a b c : List Nat) (hp : p < 18446744073709551616) : CallSpec Tryz.pr.P Tryz.pr.G 7 [u64 p, .agg 3 (three (u64s a) (u64s b) (u64s c))] (Vinc.bool true) := by
  refine callSpec_of Tryz.pr Tryz.func7 rfl rfl rfl fun w0 ok0 hok hG => ?_
  refine ev_rs [] rfl trivial ?_
  by_cases hA : Asked p
  · have hm := asked_may hA
    have hf := asked_fd hA
    have hp0 := hf.pos
    refine ev_rs [.tup 2 (two (polyF p) (Vinc.bool true))] rfl ⟨.inl (field_t hA), trivial⟩ ?_
    refine ev_seq (ev_rs [] rfl trivial (ev_cf rfl (ev_sk ?_)))
    refine ev_seq (ev_rs [] rfl (by repeat' (first | exact trivial | exact gd_t | exact gd_f | exact leb rfl | exact Int.le_refl _ | exact (by decide : (0 : Int) < ((3 : Nat) : Int)) | exact (by decide : (0 : Int) ≤ 1) | exact (by decide : (1 : Int) < ((3 : Nat) : Int)) | exact (by decide : (0 : Int) ≤ 2) | exact (by decide : (2 : Int) < ((3 : Nat) : Int)) | exact (fun _ => rfl) | intro _ | apply And.intro | assumption | exact rfl | exact gd_t (by assumption) | exact gd_f (by assumption) | exact gd_a (by assumption) (by assumption) | exact gd_b (by assumption) (by assumption))) (ev_cond rfl (fun h => ?_) (fun h => ev_sk ?_)))
    · exact ev_rs [Vinc.bool true] rfl ⟨.inl awake_spec, trivial⟩ (ev_ret (ret1 (fz_p (PLe.refl _))))
    obtain ⟨g1, g3⟩ := bif5 _ _ h
    obtain ⟨g1, g2⟩ := bif5 _ _ g1
    have ha : a.length ≤ 15 := by have := of_decide_eq_false g1; omega
    have hb : b.length ≤ 15 := by have := of_decide_eq_false g2; omega
    have hc : c.length ≤ 15 := by have := of_decide_eq_false g3; omega
    have la := length_normN p a
    have lb := length_normN p b
    have lc := length_normN p c
    have hna := Nz.norm hp0 a
    have hnb := Nz.norm hp0 b
    have hnc := Nz.norm hp0 c
    have hX := Mul_way0 hm a c (by omega) (by omega)
    have hY := Mul_way0 hm b c (by omega) (by omega)
    have lx := timesN_len p (normN p a) (normN p c)
    have lx' : (timesN p (normN p a) (normN p c)).length ≤ 30 := by split at lx <;> omega
    have ly := timesN_len p (normN p b) (normN p c)
    have ly' : (timesN p (normN p b) (normN p c)).length ≤ 30 := by split at ly <;> omega
    have zx := timesN_nz hp0 (normN p a) (normN p c)
    have zy := timesN_nz hp0 (normN p b) (normN p c)
    have hE := Ext_spec hm hf (timesN p (normN p a) (normN p c)) (timesN p (normN p b) (normN p c)) (by omega) (by omega)
    have hDx := Deg_spec hm (timesN p (normN p a) (normN p c)) (by omega)
    have hDy := Deg_spec hm (timesN p (normN p b) (normN p c)) (by omega)
    rw [zx.norm_id hp0] at hDx
    rw [zy.norm_id hp0] at hDy
    rw [zx.norm_id hp0, zy.norm_id hp0] at hE
    have hEl := extR_len2 hf zx zy lx' ly'
    have hBz := fun h0 => bezout_all hf hna hnb hnc h0 (g := (extR (minv p) p (timesN p (normN p a) (normN p c)) (timesN p (normN p b) (normN p c))).1) (s := (extR (minv p) p (timesN p (normN p a) (normN p c)) (timesN p (normN p b) (normN p c))).2.1) (t := (extR (minv p) p (timesN p (normN p a) (normN p c)) (timesN p (normN p b) (normN p c))).2.2) rfl
    have hE0 := fun h1 h2 => ext_zero (p := p) (iv := minv p) (a := timesN p (normN p a) (normN p c)) (b := timesN p (normN p b) (normN p c)) h1 h2
    generalize timesN p (normN p a) (normN p c) = x at *
    generalize timesN p (normN p b) (normN p c) = y at *
    obtain ⟨⟨g, s, t⟩, hgst⟩ : ∃ z, extR (minv p) p x y = z := ⟨_, rfl⟩
    rw [hgst] at hE hEl hBz hE0
    dsimp only at hE hEl hBz
    refine ev_rs [.tup 2 (two (u64s x) (i64 0))] rfl (by repeat' (first | exact trivial | exact gd_t | exact gd_f | exact .inl hX | exact leb rfl | exact Int.le_refl _ | exact (by decide : (0 : Int) < ((3 : Nat) : Int)) | exact (by decide : (0 : Int) ≤ 1) | exact (by decide : (1 : Int) < ((3 : Nat) : Int)) | exact (by decide : (0 : Int) ≤ 2) | exact (by decide : (2 : Int) < ((3 : Nat) : Int)) | exact (fun _ => rfl) | intro _ | apply And.intro | assumption | exact rfl | exact gd_t (by assumption) | exact gd_f (by assumption) | exact gd_a (by assumption) (by assumption) | exact gd_b (by assumption) (by assumption))) ?_
    refine ev_rs [.tup 2 (two (u64s y) (i64 0))] rfl (by repeat' (first | exact trivial | exact gd_t | exact gd_f | exact .inl hY | exact leb rfl | exact Int.le_refl _ | exact (by decide : (0 : Int) < ((3 : Nat) : Int)) | exact (by decide : (0 : Int) ≤ 1) | exact (by decide : (1 : Int) < ((3 : Nat) : Int)) | exact (by decide : (0 : Int) ≤ 2) | exact (by decide : (2 : Int) < ((3 : Nat) : Int)) | exact (fun _ => rfl) | intro _ | apply And.intro | assumption | exact rfl | exact gd_t (by assumption) | exact gd_f (by assumption) | exact gd_a (by assumption) (by assumption) | exact gd_b (by assumption) (by assumption))) ?_
    refine ev_seq (ev_rs [] rfl (by repeat' (first | exact trivial | exact gd_t | exact gd_f | exact (fun _ => rfl) | intro _ | apply And.intro | assumption | exact rfl | exact gd_t (by assumption) | exact gd_f (by assumption) | exact gd_a (by assumption) (by assumption) | exact gd_b (by assumption) (by assumption))) (ev_cf rfl (ev_sk ?_)))
    refine ev_rs [.tup 3 (three (u64s g) (u64s s) (u64s t))] rfl ⟨.inl hE, trivial⟩ ?_
    by_cases h0 : x.length = 0 ∧ y.length = 0
    · have e := hE0 h0.1 h0.2
      cases e
      have hc : (bif decide (((x.length : Int) - 1) < 0) then decide (((y.length : Int) - 1) < 0) else false) = true := by
        rw [decide_eq_true (by omega), decide_eq_true (by omega)]; rfl
      refine ev_seq (ev_rs [i64 ((x.length : Int) - 1), i64 ((y.length : Int) - 1)] rfl (by repeat' (first | exact trivial | exact gd_t | exact gd_f | exact .inl hDx | exact .inl hDy | exact (fun _ => rfl) | intro _ | apply And.intro | assumption | exact rfl | exact gd_t (by assumption) | exact gd_f (by assumption) | exact gd_a (by assumption) (by assumption) | exact gd_b (by assumption) (by assumption))) (ev_ct (congrArg (fun z => AV.p (PV.val (.bool z))) hc) ?_))
      exact ev_rs [Vinc.bool true] rfl (by repeat' (first | exact trivial | exact gd_t | exact gd_f | exact .inl awake_spec | exact (fun _ => rfl) | intro _ | apply And.intro | assumption | exact rfl | exact gd_t (by assumption) | exact gd_f (by assumption) | exact gd_a (by assumption) (by assumption) | exact gd_b (by assumption) (by assumption))) (ev_ret (ret1 (fz_p (PLe.of_eq rfl))))
    · have h0' : 0 < x.length ∨ 0 < y.length := by omega
      obtain ⟨z1, z2, z3, z4, z5, z6, z7, z8⟩ := hBz h0'
      have hc : (bif decide (((x.length : Int) - 1) < 0) then decide (((y.length : Int) - 1) < 0) else false) = false := by
        rcases h0' with h1 | h1
        · rw [decide_eq_false (by omega)]; rfl
        · rw [decide_eq_false (p := ((y.length : Int) - 1) < 0) (by omega)]; cases decide (((x.length : Int) - 1) < 0) <;> rfl
      refine ev_seq (ev_rs [i64 ((x.length : Int) - 1), i64 ((y.length : Int) - 1)] rfl (by repeat' (first | exact trivial | exact gd_t | exact gd_f | exact .inl hDx | exact .inl hDy | exact (fun _ => rfl) | intro _ | apply And.intro | assumption | exact rfl | exact gd_t (by assumption) | exact gd_f (by assumption) | exact gd_a (by assumption) (by assumption) | exact gd_b (by assumption) (by assumption))) (ev_cf (congrArg (fun z => AV.p (PV.val (.bool z))) hc) (ev_sk ?_)))
      obtain ⟨l1, l2, l3⟩ := hEl
      have ls := length_normN p s
      have lt := length_normN p t
      have hM1 := Mul_way0 hm s x (by omega) (by omega)
      have hM2 := Mul_way0 hm t y (by omega) (by omega)
      rw [zx.norm_id hp0] at hM1
      rw [zy.norm_id hp0] at hM2
      have hgn := z1.norm_id hp0
      have hQ1 := DivM_ok hm x g (by omega) (by omega) (by rw [hgn]; exact z2)
      have hQ2 := DivM_ok hm y g (by omega) (by omega) (by rw [hgn]; exact z2)
      have hQ3 := DivM_ok hm g c (by omega) (by omega) z4
      rw [zx.norm_id hp0, hgn, z5] at hQ1
      rw [zy.norm_id hp0, hgn, z6] at hQ2
      rw [hgn, z7] at hQ3
      have lm1 := timesN_len p (normN p s) x
      have lm1' : (timesN p (normN p s) x).length ≤ 200 := by split at lm1 <;> omega
      have lm2 := timesN_len p (normN p t) y
      have lm2' : (timesN p (normN p t) y).length ≤ 200 := by split at lm2 <;> omega
      have hAd := UAdd_spec hm (timesN p (normN p s) x) (timesN p (normN p t) y) (by omega) (by omega)
      rw [z8] at hAd
      have hS := same_t g (by omega)
      generalize timesN p (normN p s) x = m1 at *
      generalize timesN p (normN p t) y = m2 at *
      generalize (divN (minv p) p x g).1 = q1 at *
      generalize (divN (minv p) p y g).1 = q2 at *
      generalize (divN (minv p) p g (normN p c)).1 = q3 at *
      refine ev_rs [.tup 2 (two (u64s m1) (i64 0))] rfl ⟨.inl hM1, trivial⟩ ?_
      refine ev_rs [.tup 2 (two (u64s m2) (i64 0))] rfl ⟨.inl hM2, trivial⟩ ?_
      refine ev_rs [.tup 3 (three (u64s q1) (u64s []) (i64 0))] rfl ⟨.inl hQ1, trivial⟩ ?_
      refine ev_rs [.tup 3 (three (u64s q2) (u64s []) (i64 0))] rfl ⟨.inl hQ2, trivial⟩ ?_
      refine ev_rs [.tup 3 (three (u64s q3) (u64s []) (i64 0))] rfl (by repeat' (first | exact trivial | exact gd_t | exact gd_f | exact .inl hQ3 | exact leb rfl | exact Int.le_refl _ | exact (by decide : (0 : Int) < ((3 : Nat) : Int)) | exact (by decide : (0 : Int) ≤ 1) | exact (by decide : (1 : Int) < ((3 : Nat) : Int)) | exact (by decide : (0 : Int) ≤ 2) | exact (by decide : (2 : Int) < ((3 : Nat) : Int)) | exact (fun _ => rfl) | intro _ | apply And.intro | assumption | exact rfl | exact gd_t (by assumption) | exact gd_f (by assumption) | exact gd_a (by assumption) (by assumption) | exact gd_b (by assumption) (by assumption))) ?_
      have e1 : IntKind.wrap .i64 ((g.length : Int) - 1) = ((g.length - 1 : Nat) : Int) := by rw [wrapI _ (by omega) (by omega)]; omega
      have hi1 : (IntKind.wrap .i64 ((g.length : Int) - 1)).toNat < g.length := by rw [e1]; omega
      have hi2 : (0 : Int) ≤ IntKind.wrap .i64 ((g.length : Int) - 1) := by rw [e1]; omega
      have hi3 : IntKind.wrap .i64 ((g.length : Int) - 1) < (g.length : Int) := by rw [e1]; omega
      have hz3 : ((g.getD (IntKind.wrap .i64 ((g.length : Int) - 1)).toNat 0 : Nat) : Int) = 1 := by rw [e1, Int.toNat_natCast, z3]; rfl
      have key : ∀ q1 q2 : Bool, q1 = true → q2 = true → (bif (bif (bif true then q1 else false) then q2 else false) then true else false) = true := by decide
      exact ev_rs [u64s g, Vinc.bool true, Vinc.bool true] rfl (by repeat' (first | exact trivial | exact gd_t | exact gd_f | exact .inl hAd | exact .inl hS | exact .inl awake_spec | exact hi1 | exact hi2 | exact hi3 | exact (fun _ => rfl) | intro _ | apply And.intro | assumption | exact rfl | exact gd_t (by assumption) | exact gd_f (by assumption) | exact gd_a (by assumption) (by assumption) | exact gd_b (by assumption) (by assumption))) (ev_ret (ret1 (fz_p (PLe.of_eq (congrArg Vinc.bool (key (decide ((g.length : Int) > 0)) (((g.getD (IntKind.wrap .i64 ((g.length : Int) - 1)).toNat 0 : Nat) : Int) == 1) (decide_eq_true (by omega)) (beq_iff_eq.mpr hz3)))))))
  · refine ev_rs [.tup 2 (two nilP (Vinc.bool true))] rfl ⟨.inl (field_f hp hA), trivial⟩ ?_
    refine ev_seq (ev_rs [] rfl trivial (ev_cf rfl (ev_sk ?_)))
    refine ev_seq (ev_rs [] rfl (by repeat' (first | exact trivial | exact gd_t | exact gd_f | exact leb rfl | exact Int.le_refl _ | exact (by decide : (0 : Int) < ((3 : Nat) : Int)) | exact (by decide : (0 : Int) ≤ 1) | exact (by decide : (1 : Int) < ((3 : Nat) : Int)) | exact (by decide : (0 : Int) ≤ 2) | exact (by decide : (2 : Int) < ((3 : Nat) : Int)) | exact (fun _ => rfl) | intro _ | apply And.intro | assumption | exact rfl | exact gd_t (by assumption) | exact gd_f (by assumption) | exact gd_a (by assumption) (by assumption) | exact gd_b (by assumption) (by assumption))) (ev_ct rfl ?_))
    exact ev_rs [Vinc.bool true] rfl ⟨.inl awake_spec, trivial⟩ (ev_ret (ret1 (fz_p (PLe.refl _))))

end Go.Proofs

/- The laws of upoly: products by whichever way. -/
set_option linter.unusedVariables false
namespace Go.Proofs
open Go Vinc Vinc.Num

theorem Mul_way3 {p : Nat} (hm : MayM p) (a b : List Nat) (hl : a.length < 1000) (hl2 : b.length < 1000) : CallSpec Tryz.pr.P Tryz.pr.G 12 [polyF p, u64s a, u64s b, i64 3] (.tup 2 (two (u64s (timesN p (normN p a) (normN p b))) (i64 0))) := by
  have hp0 : 0 < p := by have := hm.1; omega
  have la := length_normN p a
  have lb := length_normN p b
  have hNa := Norm_spec hm a (by omega)
  have hNb := Norm_spec hm b (by omega)
  have hP := byPrimes_spec hm (normN p a) (normN p b) (by omega) (by omega) (Nz.norm hp0 a).lt (Nz.norm hp0 b).lt
  generalize timesN p (normN p a) (normN p b) = t at *
  generalize normN p a = na at *
  generalize normN p b = nb at *
  refine callSpec_of Tryz.pr Tryz.func12 rfl rfl rfl fun w0 ok0 hok hG => ?_
  refine ev_rs [] rfl trivial ?_
  refine ev_seq (ev_rs [] rfl trivial (ev_cf rfl (ev_sk ?_)))
  refine ev_rs [u64s na, u64s nb] rfl ⟨.inl hNb, .inl hNa, trivial⟩ ?_
  refine ev_seq (ev_rs [] rfl trivial (ev_block (ev_seq (ev_block (ev_seq (ev_block (ev_seq (ev_block (ev_seq (ev_block (ev_seq (ev_seq (ev_rs [] rfl trivial (ev_cf rfl (ev_sk ?_)))))))))))))))
  refine ev_seq (ev_rs [] rfl trivial (ev_cf rfl (ev_sk ?_)))
  refine ev_seq (ev_rs [] rfl trivial (ev_cf rfl (ev_sk ?_)))
  refine ev_rs [] rfl trivial (ev_ct rfl (ev_exit ?_))
  exact ev_seq (ev_rs [.tup 2 (two (u64s t) (i64 0))] rfl ⟨.inl hP, trivial⟩ (ev_ret (ret2 (fz_p (PLe.refl _)) (fz_p (PLe.refl _)))))

theorem Mul_bad {p : Nat} (hm : MayM p) (a b : List Nat) (hl : a.length < 1000) (hl2 : b.length < 1000) (w : Int) (hw : w < 0 ∨ 3 < w) : CallSpec Tryz.pr.P Tryz.pr.G 12 [polyF p, u64s a, u64s b, i64 w] (.tup 2 (two nilS (i64 1))) := by
  have hNa := Norm_spec hm a (by omega)
  have hNb := Norm_spec hm b (by omega)
  generalize normN p a = na at *
  generalize normN p b = nb at *
  have e : ∀ z : Int, w ≠ z → (AV.p (PV.val (.bool (w == z)))) = .p (.val (.bool false)) := fun z h => congrArg (fun z => AV.p (PV.val (.bool z))) (beq_eq_false_iff_ne.mpr h)
  refine callSpec_of Tryz.pr Tryz.func12 rfl rfl rfl fun w0 ok0 hok hG => ?_
  refine ev_rs [] rfl trivial ?_
  refine ev_seq (ev_rs [] rfl trivial (ev_cf rfl (ev_sk ?_)))
  refine ev_rs [u64s na, u64s nb] rfl ⟨.inl hNb, .inl hNa, trivial⟩ ?_
  refine ev_seq (ev_rs [] rfl trivial (ev_block (ev_seq (ev_block (ev_seq (ev_block (ev_seq (ev_block (ev_seq (ev_block (ev_seq (ev_seq (ev_rs [] rfl trivial (ev_cf (e 0 (by omega)) (ev_sk ?_)))))))))))))))
  refine ev_seq (ev_rs [] rfl trivial (ev_cf (e 2 (by omega)) (ev_sk ?_)))
  refine ev_seq (ev_rs [] rfl trivial (ev_cf (e 1 (by omega)) (ev_sk ?_)))
  refine ev_rs [] rfl trivial (ev_cf (e 3 (by omega)) (ev_sk (ev_exit ?_)))
  exact ev_rs [] rfl trivial (ev_ret (ret2 (fz_p (PLe.refl _)) (fz_p (PLe.refl _))))

theorem Mul_any0 {p : Nat} (hm : MayM p) (a b : List Nat) (hl : a.length < 1000) (hl2 : b.length < 1000) : CallSpec Tryz.pr.P Tryz.pr.G 12 [polyF p, u64s a, u64s b, i64 0] (.tup 2 (two (u64s (timesN p (normN p a) (normN p b))) (i64 0))) := by
  have hp0 : 0 < p := by have := hm.1; omega
  have la := length_normN p a
  have lb := length_normN p b
  have hNa := Norm_spec hm a (by omega)
  have hNb := Norm_spec hm b (by omega)
  have hP := byPrimes_spec hm (normN p a) (normN p b) (by omega) (by omega) (Nz.norm hp0 a).lt (Nz.norm hp0 b).lt
  generalize normN p a = na at *
  generalize normN p b = nb at *
  refine callSpec_of Tryz.pr Tryz.func12 rfl rfl rfl fun w0 ok0 hok hG => ?_
  refine ev_rs [] rfl trivial ?_
  refine ev_seq (ev_rs [] rfl trivial (ev_cf rfl (ev_sk ?_)))
  refine ev_rs [u64s na, u64s nb] rfl ⟨.inl hNb, .inl hNa, trivial⟩ ?_
  refine ev_seq (ev_rs [] rfl trivial (ev_block (ev_seq (ev_block (ev_seq (ev_block (ev_seq (ev_block (ev_seq (ev_block (ev_seq (ev_seq (ev_rs [] rfl trivial (ev_ct rfl (ev_exit ?_)))))))))))))))
  refine ev_rs [] rfl (by repeat' (first | exact trivial | exact gd_t | exact gd_f | exact (fun _ => rfl) | intro _ | apply And.intro | assumption | exact rfl | exact gd_t (by assumption) | exact gd_f (by assumption) | exact gd_a (by assumption) (by assumption) | exact gd_b (by assumption) (by assumption))) (ev_cond rfl (fun hq => ?_) (fun hq => ev_skip ?_))
  · exact ev_rs [.tup 2 (two (u64s (timesN p na nb)) (i64 0))] rfl ⟨.inl hP, trivial⟩ (ev_ret (ret2 (fz_p (PLe.refl _)) (fz_p (PLe.refl _))))
  · have := length_oneN p na nb
    refine ev_seq (ev_rs [u64s (oneN p na nb), u64s (timesN p na nb)] rfl ⟨.inl (trim_spec _ (by omega)), .inl (half_spec' hm na nb (by omega) (by omega)), trivial⟩ (ev_ret (ret2 (fz_p (PLe.refl _)) (fz_p (PLe.refl _)))))

theorem Mul_ways {p : Nat} (hm : MayM p) (a b : List Nat) (hl : a.length < 1000) (hl2 : b.length < 1000) (w : Int) (hw : 0 ≤ w) (hw2 : w ≤ 3) : CallSpec Tryz.pr.P Tryz.pr.G 12 [polyF p, u64s a, u64s b, i64 w] (.tup 2 (two (u64s (timesN p (normN p a) (normN p b))) (i64 0))) := by
  rcases (by omega : w = 0 ∨ w = 1 ∨ w = 2 ∨ w = 3) with rfl | rfl | rfl | rfl
  · exact Mul_any0 hm a b hl hl2
  · exact Mul_way1 hm a b (by omega) (by omega)
  · exact Mul_way2 hm a b (by omega) (by omega)
  · exact Mul_way3 hm a b hl hl2

set_option maxRecDepth 100000 in
theorem UpolyMuls_spec (p : Nat) (a b : List Nat) (w : Int) (hp : p < 18446744073709551616) (hb64 : W64 b) : CallSpec Tryz.pr.P Tryz.pr.G 3 [u64 p, .agg 2 (two (u64s a) (u64s b)), i64 w] (Vinc.bool true) := by
  refine callSpec_of Tryz.pr Tryz.func3 rfl rfl rfl fun w0 ok0 hok hG => ?_
  refine ev_rs [] rfl (by repeat' (first | exact trivial | exact gd_t | exact gd_f | exact leb rfl | exact (fun _ => rfl) | intro _ | apply And.intro | assumption | exact rfl | exact gd_t (by assumption) | exact gd_f (by assumption) | exact gd_a (by assumption) (by assumption) | exact gd_b (by assumption) (by assumption))) ?_
  by_cases hA : Asked p
  · have hm := asked_may hA
    have hf := asked_fd hA
    have hp0 := hf.pos
    refine ev_rs [.tup 2 (two (polyF p) (Vinc.bool true))] rfl ⟨.inl (field_t hA), trivial⟩ ?_
    refine ev_seq (ev_rs [] rfl trivial (ev_cf rfl (ev_sk ?_)))
    refine ev_rs [] rfl (by repeat' (first | exact trivial | exact gd_t | exact gd_f | exact leb rfl | exact by decide | exact (fun _ => rfl) | intro _ | apply And.intro | assumption | exact rfl | exact gd_t (by assumption) | exact gd_f (by assumption) | exact gd_a (by assumption) (by assumption) | exact gd_b (by assumption) (by assumption))) ?_
    refine ev_rs [] rfl (by repeat' (first | exact trivial | exact gd_t | exact gd_f | exact leb rfl | exact by decide | exact (fun _ => rfl) | intro _ | apply And.intro | assumption | exact rfl | exact gd_t (by assumption) | exact gd_f (by assumption) | exact gd_a (by assumption) (by assumption) | exact gd_b (by assumption) (by assumption))) ?_
    refine ev_wk (σ' := mk [(0, .p (u64 p)), (2, .p (i64 w)), (7, .p (polyF p)), (9, .p (u64s a)), (10, .p (u64s b))] []) (wk (fun i => i) ⟨le_0, le_0, le_0, le_0, le_0, trivial⟩ trivial rfl) ?_
    refine ev_seq (ev_rs [Vinc.bool (fewB a b)] rfl (by repeat' (first | exact trivial | exact gd_t | exact gd_f | exact .inl (few_spec a b) | exact (fun _ => rfl) | intro _ | apply And.intro | assumption | exact rfl | exact gd_t (by assumption) | exact gd_f (by assumption) | exact gd_a (by assumption) (by assumption) | exact gd_b (by assumption) (by assumption))) (ev_cond rfl (fun h => ?_) (fun h => ev_sk ?_)))
    · exact ev_rs [Vinc.bool true] rfl ⟨.inl awake_spec, trivial⟩ (ev_ret (ret1 (fz_p (PLe.refl _))))
    obtain ⟨ha, hb⟩ := fewB_t h
    by_cases hw : w < 0 ∨ 3 < w
    · have hc : (bif decide (w < 0) then true else decide (w > 3)) = true := by
        rcases hw with h1 | h1
        · rw [decide_eq_true h1]; rfl
        · rw [decide_eq_true (show w > 3 from h1)]; cases decide (w < 0) <;> rfl
      refine ev_rs [.tup 2 (two nilS (i64 1))] rfl ⟨.inl (Mul_bad hm a b (by omega) (by omega) w hw), trivial⟩ ?_
      refine ev_seq (ev_rs [] rfl (by repeat' (first | exact trivial | exact gd_t | exact gd_f | exact (fun _ => rfl) | intro _ | apply And.intro | assumption | exact rfl | exact gd_t (by assumption) | exact gd_f (by assumption) | exact gd_a (by assumption) (by assumption) | exact gd_b (by assumption) (by assumption))) (ev_ct (congrArg (fun z => AV.p (PV.val (.bool z))) hc) ?_))
      exact ev_rs [Vinc.bool true] rfl (by repeat' (first | exact trivial | exact gd_t | exact gd_f | exact .inl awake_spec | exact (fun _ => rfl) | intro _ | apply And.intro | assumption | exact rfl | exact gd_t (by assumption) | exact gd_f (by assumption) | exact gd_a (by assumption) (by assumption) | exact gd_b (by assumption) (by assumption))) (ev_ret (ret1 (fz_p (PLe.of_eq rfl))))
    · have hc : (bif decide (w < 0) then true else decide (w > 3)) = false := by
        rw [decide_eq_false (by omega), decide_eq_false (by omega)]; rfl
      have hM := Mul_ways hm a b (by omega) (by omega) w (by omega) (by omega)
      have hR := RMul_spec hm a b (by omega) (by omega) hb64
      have e : timesN p (normN p a) (normN p b) = rMul p a b := by
        rw [rMul_eq hp0, times_norm hp0, timesN_comm hp0 a, times_norm hp0, timesN_comm hp0 b]
      rw [← e] at hR
      have hl := timesN_len p (normN p a) (normN p b)
      have la := length_normN p a
      have lb := length_normN p b
      have hl' : (timesN p (normN p a) (normN p b)).length < 1000000 := by split at hl <;> omega
      have hS := same_t _ hl'
      generalize timesN p (normN p a) (normN p b) = t at *
      refine ev_rs [.tup 2 (two (u64s t) (i64 0))] rfl ⟨.inl hM, trivial⟩ ?_
      refine ev_seq (ev_rs [] rfl (by repeat' (first | exact trivial | exact gd_t | exact gd_f | exact (fun _ => rfl) | intro _ | apply And.intro | assumption | exact rfl | exact gd_t (by assumption) | exact gd_f (by assumption) | exact gd_a (by assumption) (by assumption) | exact gd_b (by assumption) (by assumption))) (ev_cf (congrArg (fun z => AV.p (PV.val (.bool z))) hc) (ev_sk ?_)))
      exact ev_rs [u64s t, Vinc.bool true, Vinc.bool true] rfl (by repeat' (first | exact trivial | exact gd_t | exact gd_f | exact .inl hR | exact .inl hS | exact .inl awake_spec | exact (fun _ => rfl) | intro _ | apply And.intro | assumption | exact rfl | exact gd_t (by assumption) | exact gd_f (by assumption) | exact gd_a (by assumption) (by assumption) | exact gd_b (by assumption) (by assumption))) (ev_ret (ret1 (fz_p (PLe.of_eq rfl))))
  · refine ev_rs [.tup 2 (two nilP (Vinc.bool true))] rfl ⟨.inl (field_f hp hA), trivial⟩ ?_
    refine ev_seq (ev_rs [] rfl trivial (ev_cf rfl (ev_sk ?_)))
    refine ev_rs [] rfl (by repeat' (first | exact trivial | exact gd_t | exact gd_f | exact leb rfl | exact by decide | exact (fun _ => rfl) | intro _ | apply And.intro | assumption | exact rfl | exact gd_t (by assumption) | exact gd_f (by assumption) | exact gd_a (by assumption) (by assumption) | exact gd_b (by assumption) (by assumption))) ?_
    refine ev_rs [] rfl (by repeat' (first | exact trivial | exact gd_t | exact gd_f | exact leb rfl | exact by decide | exact (fun _ => rfl) | intro _ | apply And.intro | assumption | exact rfl | exact gd_t (by assumption) | exact gd_f (by assumption) | exact gd_a (by assumption) (by assumption) | exact gd_b (by assumption) (by assumption))) ?_
    refine ev_wk (σ' := mk [(0, .p (u64 p)), (2, .p (i64 w)), (7, .p nilP), (9, .p (u64s a)), (10, .p (u64s b))] []) (wk (fun i => i) ⟨le_0, le_0, le_0, le_0, le_0, trivial⟩ trivial rfl) ?_
    refine ev_seq (ev_rs [Vinc.bool (fewB a b)] rfl (by repeat' (first | exact trivial | exact gd_t | exact gd_f | exact .inl (few_spec a b) | exact (fun _ => rfl) | intro _ | apply And.intro | assumption | exact rfl | exact gd_t (by assumption) | exact gd_f (by assumption) | exact gd_a (by assumption) (by assumption) | exact gd_b (by assumption) (by assumption))) (ev_ct rfl ?_))
    exact ev_rs [Vinc.bool true] rfl ⟨.inl awake_spec, trivial⟩ (ev_ret (ret1 (fz_p (PLe.refl _))))

end Go.Proofs

/- The laws of upoly: polynomials are a ring; long products by all ways. -/
set_option linter.unusedVariables false
namespace Go.Proofs
open Go Vinc Vinc.Num

/-- Coefficients that are made. -/
def madeY (p x : Nat) : Nat → Nat
  | 0 => 1
  | i + 1 => (madeY p x i * x % p + i) % p

set_option maxRecDepth 40000 in
theorem made_spec2 {p : Nat} (hm : MayM p) (x n : Nat) (hx : x < 18446744073709551616) (hn : n ≤ 600) : CallSpec Tryz.pr.P Tryz.pr.G 15 [u64 x, i64 n, u64 p] (u64s (tabL (fun i => madeY p x (i + 1)) n)) := by
  obtain ⟨f, hf⟩ : ∃ f : Nat → Nat, f = fun i => madeY p x (i + 1) := ⟨_, rfl⟩
  have hfi : ∀ i, (madeY p x i * x % p + i) % p = f i := fun i => by rw [hf]; rfl
  have hfs : ∀ i, madeY p x (i + 1) = f i := fun i => by rw [hf]
  rw [← hf]
  clear hf
  refine callSpec_of Tryz.pr Tryz.func15 rfl rfl rfl fun w0 ok0 hok hG => ?_
  refine ev_rs [] rfl trivial ?_
  refine ev_rs [] rfl trivial (ev_nilown 7 907 rfl rfl ?_)
  refine ev_rs [] rfl trivial ?_
  refine ev_at (α := Unit) (fun _ => True) (fun _ => [(7, .p (u64s (tabL f n)))]) (fun _ => []) ?_ ?_
  · refine ev_rs [] rfl trivial ?_
    refine ev_block (ev_while (α := Nat) (fun i => i ≤ n) (fun i => [(0, .p (u64 x)), (1, .p (i64 n)), (2, .p (u64 p)), (7, .own 907 0 i 1), (8, .p (u64 (madeY p x i))), (9, .p (i64 i))])
      (fun i => [(907, ob64 (tabL f i))]) (fun i => n - i) 0 (Nat.zero_le _)
      (wk_ob rfl (fun hd => ⟨le_refl hd _, le_refl hd _, le_refl hd _, le_o rfl, le_refl hd _, le_refl hd _, trivial⟩)) ?_)
    rintro i h1
    refine ev_seq (ev_rs [] rfl trivial (ev_cond rfl (fun hq => ev_sk ?_) (fun hq => ev_exit ?_)))
    · have hi : i < n := Int.ofNat_lt.mp (of_decide_eq_true hq)
      have hM := RefMul_spec hm (madeY p x i) x hx
      have hA := RefAdd_spec hm (madeY p x i * x % p) i
      rw [hfi] at hA
      have ei : IntKind.wrap .u64 (i : Int) = (i : Int) := by rw [wrapN, Nat.mod_eq_of_lt (by omega)]
      have hA' : CallSpec Tryz.pr.P Tryz.pr.G 23 [u64 (madeY p x i * x % p), .val (.int .u64 (IntKind.wrap .u64 (i : Int))), u64 p] (u64 (f i)) := by rw [ei]; exact hA
      have d4 : i + 1 ≤ 1099511627776 := by omega
      have d8 : (tabL f i).length = i := len_tabL _ _
      refine ev_seq (ev_block ?_)
      refine ev_rs [u64 (madeY p x i * x % p), u64 (f i)] rfl (by repeat' (first | exact trivial | exact gd_t | exact gd_f | exact .inl hM | exact .inl hA' | exact (fun _ => rfl) | intro _ | apply And.intro | assumption | exact rfl | exact gd_t (by assumption) | exact gd_f (by assumption) | exact gd_a (by assumption) (by assumption) | exact gd_b (by assumption) (by assumption))) ?_
      refine ev_region [] rfl (by repeat' (first | exact trivial | exact gd_t | exact gd_f | exact leb rfl | exact d4 | exact d8 | exact (fun _ => rfl) | intro _ | apply And.intro | assumption | exact rfl | exact gd_t (by assumption) | exact gd_f (by assumption) | exact gd_a (by assumption) (by assumption) | exact gd_b (by assumption) (by assumption))) ?_
      refine ev_app 7 26 (tabL f i) [f i] rfl rfl (show i + 1 = _ by rw [d8]; rfl) (show i + 1 = _ by rw [d8]; rfl) d8.symm (fun _ _ => rfl) (fun q hq => by match q, hq with | 0, _ => rfl) ?_
      have d9 : tabL f i ++ [f i] = tabL f (i + 1) := (tabL_snoc f i).symm
      refine ev_eq 7 (.own 26 0 (i + 1) 1) (congrArg (fun z => AV.own 26 0 z 1) (by rw [d9]; exact len_tabL _ _)) (ev_ob 26 (ob64 (tabL f (i + 1))) (congrArg (fun l => some (ob64 l)) d9) ?_)
      exact ev_region [] rfl trivial ⟨i + 1, hi, by dsimp only; omega, wk_l (ren2 907 26) (all1 rfl) (fun hd => ⟨le_refl hd _, le_refl hd _, le_refl hd _, le_own (ρ := ren2 907 26) (i := 907) rfl, le_n hd (congrArg u64 (hfs i).symm), le_n hd (congrArg (fun z => PV.val (.int .i64 z)) (wrapI _ (by omega) (by omega))), trivial⟩)
        (fun hd => ⟨⟨_, rfl, Nat.le_refl _, fun j _ => le_refl hd _⟩, trivial⟩) rfl⟩
    · have hi : i = n := by
        have := of_decide_eq_false hq
        omega
      subst hi
      exact at0 () trivial ⟨le_fz' rfl (len_tabL f i).symm rfl, trivial⟩
  rintro ⟨⟩ -
  exact ev_rs [] rfl trivial (ev_ret (ret1 (fz_p (PLe.refl _))))

set_option maxRecDepth 100000 in
theorem UpolyWays_spec (p x y : Nat) (m n : Int) (hp : p < 18446744073709551616) (hx : x < 18446744073709551616) (hy : y < 18446744073709551616) :
    CallSpec Tryz.pr.P Tryz.pr.G 4 [u64 p, .agg 2 (two (u64 x) (u64 y)), .agg 2 (two (i64 m) (i64 n))] (Vinc.bool true) := by
  refine callSpec_of Tryz.pr Tryz.func4 rfl rfl rfl fun w0 ok0 hok hG => ?_
  refine ev_rs [] rfl (by repeat' (first | exact trivial | exact gd_t | exact gd_f | exact leb rfl | exact (fun _ => rfl) | intro _ | apply And.intro | assumption | exact rfl | exact gd_t (by assumption) | exact gd_f (by assumption) | exact gd_a (by assumption) (by assumption) | exact gd_b (by assumption) (by assumption))) ?_
  by_cases hA : Asked p
  · have hm := asked_may hA
    have hf := asked_fd hA
    have hp0 := hf.pos
    refine ev_rs [.tup 2 (two (polyF p) (Vinc.bool true))] rfl ⟨.inl (field_t hA), trivial⟩ ?_
    refine ev_seq (ev_rs [] rfl trivial (ev_cf rfl (ev_sk ?_)))
    refine ev_seq (ev_rs [] rfl (by repeat' (first | exact trivial | exact gd_t | exact gd_f | exact leb rfl | exact by decide | exact (fun _ => rfl) | intro _ | apply And.intro | assumption | exact rfl | exact gd_t (by assumption) | exact gd_f (by assumption) | exact gd_a (by assumption) (by assumption) | exact gd_b (by assumption) (by assumption))) (ev_cond rfl (fun h => ?_) (fun h => ev_sk ?_)))
    · exact ev_rs [Vinc.bool true] rfl ⟨.inl awake_spec, trivial⟩ (ev_ret (ret1 (fz_p (PLe.refl _))))
    obtain ⟨g1, g4⟩ := bif5 _ _ h
    obtain ⟨g1, g3⟩ := bif5 _ _ g1
    obtain ⟨g1, g2⟩ := bif5 _ _ g1
    have m0 : 0 ≤ m := by have := of_decide_eq_false g1; omega
    have m1 : m ≤ 600 := by have := of_decide_eq_false g2; omega
    have n0 : 0 ≤ n := by have := of_decide_eq_false g3; omega
    have n1 : n ≤ 600 := by have := of_decide_eq_false g4; omega
    obtain ⟨m, rfl⟩ : ∃ k : Nat, m = k := ⟨m.toNat, by omega⟩
    obtain ⟨n, rfl⟩ : ∃ k : Nat, n = k := ⟨n.toNat, by omega⟩
    have hMa := made_spec2 hm x m hx (by omega)
    have hMb := made_spec2 hm y n hy (by omega)
    have hla : (tabL (fun i => madeY p x (i + 1)) m).length = m := len_tabL _ _
    have hlb : (tabL (fun i => madeY p y (i + 1)) n).length = n := len_tabL _ _
    generalize tabL (fun i => madeY p x (i + 1)) m = a at *
    generalize tabL (fun i => madeY p y (i + 1)) n = b at *
    have hW := fun w h1 h2 => Mul_ways hm a b (by omega) (by omega) w h1 h2
    have hl := timesN_len p (normN p a) (normN p b)
    have la := length_normN p a
    have lb := length_normN p b
    have hl' : (timesN p (normN p a) (normN p b)).length < 1000000 := by split at hl <;> omega
    have hS := same_t _ hl'
    generalize timesN p (normN p a) (normN p b) = t at *
    refine ev_rs [u64s a] rfl (by repeat' (first | exact trivial | exact gd_t | exact gd_f | exact leb rfl | exact by decide | exact .inl hMa | exact (fun _ => rfl) | intro _ | apply And.intro | assumption | exact rfl | exact gd_t (by assumption) | exact gd_f (by assumption) | exact gd_a (by assumption) (by assumption) | exact gd_b (by assumption) (by assumption))) ?_
    refine ev_rs [u64s b] rfl (by repeat' (first | exact trivial | exact gd_t | exact gd_f | exact leb rfl | exact by decide | exact .inl hMb | exact (fun _ => rfl) | intro _ | apply And.intro | assumption | exact rfl | exact gd_t (by assumption) | exact gd_f (by assumption) | exact gd_a (by assumption) (by assumption) | exact gd_b (by assumption) (by assumption))) ?_
    refine ev_rs [.tup 2 (two (u64s t) (i64 0))] rfl ⟨.inl (hW 0 (by decide) (by decide)), trivial⟩ ?_
    refine ev_at (α := Unit) (fun _ => True) (fun _ => []) (fun _ => []) ?_ ?_
    · refine ev_rs [] rfl trivial ?_
      refine ev_block (ev_while0 (α := Nat) (fun w => 1 ≤ w ∧ w ≤ 4) (fun w => [(7, .p (polyF p)), (9, .p (u64s a)), (10, .p (u64s b)), (11, .p (u64s t)), (12, .p (i64 0)), (13, .p (i64 w))]) (fun w => 4 - w) 1
        ⟨Nat.le_refl _, by decide⟩ ⟨le_0, le_0, le_0, le_0, le_0, le_0, trivial⟩ ?_)
      rintro w ⟨h1, h2⟩
      refine ev_seq (ev_rs [] rfl trivial (ev_cond rfl (fun hq => ev_sk ?_) (fun hq => ev_exit ?_)))
      · have hw : (w : Int) ≤ 3 := of_decide_eq_true hq
        refine ev_seq (ev_block ?_)
        refine ev_rs [.tup 2 (two (u64s t) (i64 0))] rfl ⟨.inl (hW w (by omega) hw), trivial⟩ ?_
        refine ev_rs [Vinc.bool true] rfl (by repeat' (first | exact trivial | exact gd_t | exact gd_f | exact .inl hS | exact (fun _ => rfl) | intro _ | apply And.intro | assumption | exact rfl | exact gd_t (by assumption) | exact gd_f (by assumption) | exact gd_a (by assumption) (by assumption) | exact gd_b (by assumption) (by assumption))) (ev_cf rfl (ev_skip ?_))
        exact ev_region [] rfl trivial (round0 (w + 1) ⟨by omega, by omega⟩ (by omega) ⟨le_0, le_0, le_0, le_0, le_0, le_e (congrArg (fun z => PV.val (.int .i64 z)) (wrapI _ (by omega) (by omega))), trivial⟩)
      · exact at0 () trivial trivial
    rintro ⟨⟩ -
    exact ev_rs [Vinc.bool true] rfl ⟨.inl awake_spec, trivial⟩ (ev_ret (ret1 (fz_p (PLe.refl _))))
  · refine ev_rs [.tup 2 (two nilP (Vinc.bool true))] rfl ⟨.inl (field_f hp hA), trivial⟩ ?_
    refine ev_seq (ev_rs [] rfl trivial (ev_cf rfl (ev_sk ?_)))
    refine ev_seq (ev_rs [] rfl (by repeat' (first | exact trivial | exact gd_t | exact gd_f | exact leb rfl | exact by decide | exact (fun _ => rfl) | intro _ | apply And.intro | assumption | exact rfl | exact gd_t (by assumption) | exact gd_f (by assumption) | exact gd_a (by assumption) (by assumption) | exact gd_b (by assumption) (by assumption))) (ev_ct rfl ?_))
    exact ev_rs [Vinc.bool true] rfl ⟨.inl awake_spec, trivial⟩ (ev_ret (ret1 (fz_p (PLe.refl _))))

set_option maxRecDepth 100000 in
set_option maxHeartbeats 2000000 in
theorem UpolyRing_spec (p : Nat) (a b c : List Nat) (x : Nat) (hp : p < 18446744073709551616) (hx : x < 18446744073709551616) :
    CallSpec Tryz.pr.P Tryz.pr.G 6 [u64 p, .agg 3 (three (u64s a) (u64s b) (u64s c)), u64 x] (Vinc.bool true) := by
  refine callSpec_of Tryz.pr Tryz.func6 rfl rfl rfl fun w0 ok0 hok hG => ?_
  refine ev_rs [] rfl (by repeat' (first | exact trivial | exact gd_t | exact gd_f | exact leb rfl | exact (fun _ => rfl) | intro _ | apply And.intro | assumption | exact rfl | exact gd_t (by assumption) | exact gd_f (by assumption) | exact gd_a (by assumption) (by assumption) | exact gd_b (by assumption) (by assumption))) ?_
  by_cases hA : Asked p
  · have hm := asked_may hA
    have hf := asked_fd hA
    have hp0 := hf.pos
    refine ev_rs [.tup 2 (two (polyF p) (Vinc.bool true))] rfl ⟨.inl (field_t hA), trivial⟩ ?_
    refine ev_seq (ev_rs [] rfl trivial (ev_cf rfl (ev_sk ?_)))
    refine ev_rs [] rfl (by repeat' (first | exact trivial | exact gd_t | exact gd_f | exact leb rfl | exact by decide | exact (fun _ => rfl) | intro _ | apply And.intro | assumption | exact rfl | exact gd_t (by assumption) | exact gd_f (by assumption) | exact gd_a (by assumption) (by assumption) | exact gd_b (by assumption) (by assumption))) ?_
    refine ev_rs [] rfl (by repeat' (first | exact trivial | exact gd_t | exact gd_f | exact leb rfl | exact by decide | exact (fun _ => rfl) | intro _ | apply And.intro | assumption | exact rfl | exact gd_t (by assumption) | exact gd_f (by assumption) | exact gd_a (by assumption) (by assumption) | exact gd_b (by assumption) (by assumption))) ?_
    refine ev_rs [] rfl (by repeat' (first | exact trivial | exact gd_t | exact gd_f | exact leb rfl | exact by decide | exact (fun _ => rfl) | intro _ | apply And.intro | assumption | exact rfl | exact gd_t (by assumption) | exact gd_f (by assumption) | exact gd_a (by assumption) (by assumption) | exact gd_b (by assumption) (by assumption))) ?_
    refine ev_wk (σ' := mk [(0, .p (u64 p)), (2, .p (u64 x)), (7, .p (polyF p)), (9, .p (u64s a)), (10, .p (u64s b)), (11, .p (u64s c))] []) (wk (fun i => i) ⟨le_0, le_0, le_0, le_0, le_0, le_0, trivial⟩ trivial rfl) ?_
    refine ev_seq (ev_rs [] rfl (by repeat' (first | exact trivial | exact gd_t | exact gd_f | exact (fun _ => rfl) | intro _ | apply And.intro | assumption | exact rfl | exact gd_t (by assumption) | exact gd_f (by assumption) | exact gd_a (by assumption) (by assumption) | exact gd_b (by assumption) (by assumption))) (ev_cond rfl (fun h => ?_) (fun h => ev_sk ?_)))
    · exact ev_rs [Vinc.bool true] rfl ⟨.inl awake_spec, trivial⟩ (ev_ret (ret1 (fz_p (PLe.refl _))))
    obtain ⟨g1, g3⟩ := bif5 _ _ h
    obtain ⟨g1, g2⟩ := bif5 _ _ g1
    have ha : a.length ≤ 30 := by have := of_decide_eq_false g1; omega
    have hb : b.length ≤ 30 := by have := of_decide_eq_false g2; omega
    have hc : c.length ≤ 30 := by have := of_decide_eq_false g3; omega
    have la := length_normN p a
    have lb := length_normN p b
    have lc := length_normN p c
    have hna := Nz.norm hp0 a
    have hnb := Nz.norm hp0 b
    have tl : ∀ u v : List Nat, u.length ≤ 100 → v.length ≤ 100 → (timesN p u v).length ≤ 200 := fun u v h1 h2 => by
      have h := timesN_len p u v
      split at h <;> omega
    have lbc := length_addN p b c
    have lda := deriveN_len p a
    have ldb := deriveN_len p b
    have zda := deriveN_nz hp0 a
    have zdb := deriveN_nz hp0 b
    -- the products
    have hab := Mul_way2 hm a b (by omega) (by omega)
    have hba := Mul_way1 hm b a (by omega) (by omega)
    rw [timesN_comm hp0 (normN p b) (normN p a)] at hba
    have hac := Mul_way3 hm a c (by omega) (by omega)
    have hbc := UAdd_spec hm b c (by omega) (by omega)
    have hall := Mul_any0 hm a (addN p b c) (by omega) (by omega)
    rw [times_norm_add hp0] at hall
    have lab := tl (normN p a) (normN p b) (by omega) (by omega)
    have lac := tl (normN p a) (normN p c) (by omega) (by omega)
    have hsum := UAdd_spec hm (timesN p (normN p a) (normN p b)) (timesN p (normN p a) (normN p c)) (by omega) (by omega)
    have lsum := length_addN p (timesN p (normN p a) (normN p b)) (timesN p (normN p a) (normN p c))
    have hS1 := same_t (timesN p (normN p a) (normN p b)) (by omega)
    have hS2 := same_t (addN p (timesN p (normN p a) (normN p b)) (timesN p (normN p a) (normN p c))) (by omega)
    -- the derivatives
    have hda := Derive_spec hm a (by omega)
    have hdb := Derive_spec hm b (by omega)
    have hu := Mul_any0 hm (deriveN p a) b (by omega) (by omega)
    rw [zda.norm_id hp0] at hu
    have hv := Mul_any0 hm a (deriveN p b) (by omega) (by omega)
    rw [zdb.norm_id hp0] at hv
    have lu := tl (deriveN p a) (normN p b) (by omega) (by omega)
    have lv := tl (normN p a) (deriveN p b) (by omega) (by omega)
    have hdab := Derive_spec hm (timesN p (normN p a) (normN p b)) (by omega)
    rw [leibniz hp0 a b] at hdab
    have huv := UAdd_spec hm (timesN p (deriveN p a) (normN p b)) (timesN p (normN p a) (deriveN p b)) (by omega) (by omega)
    have luv := length_addN p (timesN p (deriveN p a) (normN p b)) (timesN p (normN p a) (deriveN p b))
    have hS3 := same_t (addN p (timesN p (deriveN p a) (normN p b)) (timesN p (normN p a) (deriveN p b))) (by omega)
    -- the values
    have hE1 := Eval_spec hm (timesN p (normN p a) (normN p b)) x (by omega)
    have hE2 := Eval_spec hm a x (by omega)
    have hE3 := Eval_spec hm b x (by omega)
    have lA := length_addN p a b
    have hE4 := Eval_spec hm (addN p a b) x (by omega)
    have hAab := UAdd_spec hm a b (by omega) (by omega)
    have v1 := eval_mul hp0 x a b
    have v2 := eval_add hp0 x a b
    have vb := evalN_lt hp0 x b
    unfold evalN at v1 v2 vb
    rw [v1] at hE1
    rw [v2] at hE4
    have hR1 := RefMul_spec hm (evalF p x a a.length) (evalF p x b b.length) (by have := hm.2; omega)
    have hR2 := RefAdd_spec hm (evalF p x a a.length) (evalF p x b b.length)
    clear v1 v2 vb
    generalize evalF p x a a.length = ea at *
    generalize evalF p x b b.length = eb at *
    generalize addN p (timesN p (normN p a) (normN p b)) (timesN p (normN p a) (normN p c)) = sm at *
    generalize addN p (timesN p (deriveN p a) (normN p b)) (timesN p (normN p a) (deriveN p b)) = suv at *
    generalize timesN p (deriveN p a) (normN p b) = u at *
    generalize timesN p (normN p a) (deriveN p b) = v at *
    generalize timesN p (normN p a) (normN p b) = ab at *
    generalize timesN p (normN p a) (normN p c) = ac at *
    generalize addN p a b = apb at *
    generalize addN p b c = bpc at *
    generalize deriveN p a = da at *
    generalize deriveN p b = db at *
    generalize ea * eb % p = r1 at *
    generalize (ea + eb) % p = r2 at *
    refine ev_rs [.tup 2 (two (u64s ab) (i64 0))] rfl ⟨.inl hab, trivial⟩ ?_
    refine ev_rs [.tup 2 (two (u64s ab) (i64 0))] rfl ⟨.inl hba, trivial⟩ ?_
    refine ev_rs [.tup 2 (two (u64s ac) (i64 0))] rfl ⟨.inl hac, trivial⟩ ?_
    refine ev_rs [u64s bpc, .tup 2 (two (u64s sm) (i64 0))] rfl ⟨.inl hall, .inl hbc, trivial⟩ ?_
    refine ev_seq (ev_rs [Vinc.bool true, u64s sm, Vinc.bool true] rfl (by repeat' (first | exact trivial | exact gd_t | exact gd_f | exact .inl hS1 | exact .inl hsum | exact .inl hS2 | exact (fun _ => rfl) | intro _ | apply And.intro | assumption | exact rfl | exact gd_t (by assumption) | exact gd_f (by assumption) | exact gd_a (by assumption) (by assumption) | exact gd_b (by assumption) (by assumption))) (ev_cf rfl (ev_sk ?_)))
    refine ev_rs [u64s da, .tup 2 (two (u64s u) (i64 0))] rfl ⟨.inl hu, .inl hda, trivial⟩ ?_
    refine ev_rs [u64s db, .tup 2 (two (u64s v) (i64 0))] rfl ⟨.inl hv, .inl hdb, trivial⟩ ?_
    have key : ∀ q1 q2 : Bool, q1 = true → q2 = true → (bif (bif (bif true then q1 else false) then q2 else false) then true else false) = true := by decide
    refine ev_rs [u64s suv, u64s suv, Vinc.bool true, u64 r1, u64 ea, u64 eb, u64 r1, u64s apb, u64 r2, u64 ea, u64 eb, u64 r2, Vinc.bool true] rfl ?_ (ev_ret (ret1 (fz_p (PLe.of_eq (congrArg Vinc.bool (key ((r1 : Int) == (r1 : Int)) ((r2 : Int) == (r2 : Int)) (beq_self_eq_true _) (beq_self_eq_true _)))))))
    exact (by repeat' (first | exact trivial | exact gd_t | exact gd_f | exact .inl hdab | exact .inl huv | exact .inl hS3 | exact .inl hE1 | exact .inl hE2 | exact .inl hE3 | exact .inl hR1 | exact .inl hAab | exact .inl hE4 | exact .inl hR2 | exact .inl awake_spec | exact (fun _ => rfl) | intro _ | apply And.intro | assumption | exact rfl | exact gd_t (by assumption) | exact gd_f (by assumption) | exact gd_a (by assumption) (by assumption) | exact gd_b (by assumption) (by assumption)))
  · refine ev_rs [.tup 2 (two nilP (Vinc.bool true))] rfl ⟨.inl (field_f hp hA), trivial⟩ ?_
    refine ev_seq (ev_rs [] rfl trivial (ev_cf rfl (ev_sk ?_)))
    refine ev_rs [] rfl (by repeat' (first | exact trivial | exact gd_t | exact gd_f | exact leb rfl | exact by decide | exact (fun _ => rfl) | intro _ | apply And.intro | assumption | exact rfl | exact gd_t (by assumption) | exact gd_f (by assumption) | exact gd_a (by assumption) (by assumption) | exact gd_b (by assumption) (by assumption))) ?_
    refine ev_rs [] rfl (by repeat' (first | exact trivial | exact gd_t | exact gd_f | exact leb rfl | exact by decide | exact (fun _ => rfl) | intro _ | apply And.intro | assumption | exact rfl | exact gd_t (by assumption) | exact gd_f (by assumption) | exact gd_a (by assumption) (by assumption) | exact gd_b (by assumption) (by assumption))) ?_
    refine ev_rs [] rfl (by repeat' (first | exact trivial | exact gd_t | exact gd_f | exact leb rfl | exact by decide | exact (fun _ => rfl) | intro _ | apply And.intro | assumption | exact rfl | exact gd_t (by assumption) | exact gd_f (by assumption) | exact gd_a (by assumption) (by assumption) | exact gd_b (by assumption) (by assumption))) ?_
    refine ev_seq (ev_rs [] rfl (by repeat' (first | exact trivial | exact gd_t | exact gd_f | exact (fun _ => rfl) | intro _ | apply And.intro | assumption | exact rfl | exact gd_t (by assumption) | exact gd_f (by assumption) | exact gd_a (by assumption) (by assumption) | exact gd_b (by assumption) (by assumption))) (ev_ct rfl ?_))
    exact ev_rs [Vinc.bool true] rfl ⟨.inl awake_spec, trivial⟩ (ev_ret (ret1 (fz_p (PLe.refl _))))

end Go.Proofs
