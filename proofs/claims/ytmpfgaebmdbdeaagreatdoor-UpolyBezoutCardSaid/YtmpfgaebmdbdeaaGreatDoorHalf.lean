/- Sums, differences, products by halves, walked. -/
import Derived.Test.YtmpfgaebmdbdeaaGreatDoorPoly
import Derived.Test.YtmpfgaebmdbdeaaGreatDoorVincM
import Derived.Test.YtmpfgaebmdbdeaaGreatDoorVincHf
set_option linter.unusedVariables false
namespace Go.Proofs
open Go Vinc Vinc.Num

theorem at_spec (a : List Nat) (i : Nat) : CallSpec Tryz.pr.P Tryz.pr.G 40 [u64s a, i64 i] (u64 (a.getD i 0)) := by
  refine callSpec_of Tryz.pr Tryz.func40 rfl rfl rfl fun w0 ok0 hok hG => ?_
  refine ev_rs [] rfl trivial ?_
  refine ev_seq (ev_rs [] rfl trivial (ev_cond rfl (fun h => ?_) (fun h => ev_sk ?_)))
  · have hi : i < a.length := Int.ofNat_lt.mp (of_decide_eq_true h)
    exact ev_rs [] rfl ⟨hi, ⟨by omega, by omega⟩, trivial⟩ (ev_ret (ret1 (fz_p (PLe.refl _))))
  · have hi : a.length ≤ i := by
      have := of_decide_eq_false h
      omega
    rw [getD_ge hi]
    exact ev_rs [] rfl trivial (ev_ret (ret1 (fz_p (PLe.refl _))))

theorem UAdd_spec {p : Nat} (hm : MayM p) (a b : List Nat) (hl : a.length < 1000000) (hl2 : b.length < 1000000) : CallSpec Tryz.pr.P Tryz.pr.G 18 [polyF p, u64s a, u64s b] (u64s (addN p a b)) := by
  obtain ⟨L, hL⟩ : ∃ L, max a.length b.length = L := ⟨_, rfl⟩
  obtain ⟨f, hf⟩ : ∃ f : Nat → Nat, f = fun j => (a.getD j 0 + b.getD j 0) % p := ⟨_, rfl⟩
  have hall : tabK f L L = addL p a b := by rw [tabK_all, hf, ← hL]; rfl
  have hmax : (if (b.length : Int) > (a.length : Int) then (b.length : Int) else (a.length : Int)) = (L : Int) := by rw [← hL]; split <;> omega
  refine callSpec_of Tryz.pr Tryz.func18 rfl rfl rfl fun w0 ok0 hok hG => ?_
  refine ev_rs [] rfl trivial ?_
  refine ev_seq (ev_rs [] rfl trivial (ev_cf rfl (ev_sk ?_)))
  refine ev_rs [] rfl ?_ ?_
  · refine ⟨⟨?_, ?_, ?_⟩, trivial⟩
    all_goals
      show _ ≤ (_ : Int)
      first | exact Int.le_refl _ | skip
    · exact hmax ▸ Int.natCast_nonneg _
    · exact hmax ▸ (by omega : (L : Int) ≤ 1099511627776)
  refine ev_made 7 16 L rfl rfl (show (if (b.length : Int) > (a.length : Int) then (b.length : Int) else (a.length : Int)).toNat = _ by rw [hmax]; rfl) ?_
  refine ev_at (α := Unit) (fun _ => True) (fun _ => [(7, .p (u64s (addL p a b)))]) (fun _ => []) ?_ ?_
  · refine ev_rs [] rfl trivial ?_
    refine ev_block (ev_while (α := Nat) (fun i => i ≤ L) (fun i => [(0, .p (polyF p)), (1, .p (u64s a)), (2, .p (u64s b)), (7, .own 16 0 L 1), (18, .p (i64 L)), (19, .p (i64 i))]) (fun i => [(16, ob64 (tabK f L i))]) (fun i => L - i) 0
      (Nat.zero_le _) (wk_ob rfl (fun hd => ⟨le_refl hd _, le_refl hd _, le_refl hd _, le_o rfl, le_refl hd _, le_refl hd _, trivial⟩)) ?_)
    rintro i h1
    refine ev_rs [] rfl trivial (ev_seq (ev_cond rfl (fun h => ev_sk ?_) (fun h => ev_exit ?_)))
    · have hi : i < L := Int.ofNat_lt.mp (of_decide_eq_true h)
      have hck := length_tabK f L i
      have hfi : f i = (a.getD i 0 + b.getD i 0) % p := by rw [hf]
      refine ev_seq (ev_block ?_)
      refine ev_rs [] rfl trivial ?_
      refine ev_draw [u64 (a.getD i 0), u64 (b.getD i 0), u64 (f i)] (by kernel_rfl) rfl rfl ?_ ?_
      · rw [hfi]
        exact ⟨(by omega : i + 1 ≤ (tabK f L i).length), ⟨by omega, by omega⟩, .inl (Add_spec hm _ _), .inl (at_spec b i), .inl (at_spec a i), Nat.zero_lt_one, trivial⟩
      refine ev_set 16 i (f i) rfl rfl rfl (by omega) ?_
      exact ev_region [] rfl trivial ⟨i + 1, hi, by dsimp only; omega, wk_ob rfl (fun hd => ⟨le_refl hd _, le_refl hd _, le_refl hd _, le_o rfl, le_refl hd _, le_n hd (congrArg (fun z => PV.val (.int .i64 z)) (wrapI _ (by omega) (by omega))), trivial⟩)⟩
    · have hi : i = L := by
        have := of_decide_eq_false h
        omega
      subst hi
      exact at0 () trivial ⟨le_fz' rfl (length_tabK f i i).symm hall, trivial⟩
  rintro ⟨⟩ -
  exact ev_rs [u64s (addN p a b)] rfl ⟨.inl (trim_spec _ (by rw [length_addL]; omega)), trivial⟩ (ev_ret (ret1 (fz_p (PLe.refl _))))

theorem USub_spec {p : Nat} (hm : MayM p) (a b : List Nat) (hl : a.length < 1000000) (hl2 : b.length < 1000000) : CallSpec Tryz.pr.P Tryz.pr.G 27 [polyF p, u64s a, u64s b] (u64s (subN p a b)) := by
  obtain ⟨L, hL⟩ : ∃ L, max a.length b.length = L := ⟨_, rfl⟩
  obtain ⟨f, hf⟩ : ∃ f : Nat → Nat, f = fun j => sb (a.getD j 0) (b.getD j 0) p := ⟨_, rfl⟩
  have hall : tabK f L L = subL p a b := by rw [tabK_all, hf, ← hL]; rfl
  have hmax : (if (b.length : Int) > (a.length : Int) then (b.length : Int) else (a.length : Int)) = (L : Int) := by rw [← hL]; split <;> omega
  refine callSpec_of Tryz.pr Tryz.func27 rfl rfl rfl fun w0 ok0 hok hG => ?_
  refine ev_rs [] rfl trivial ?_
  refine ev_seq (ev_rs [] rfl trivial (ev_cf rfl (ev_sk ?_)))
  refine ev_rs [] rfl ?_ ?_
  · refine ⟨⟨?_, ?_, ?_⟩, trivial⟩
    all_goals
      show _ ≤ (_ : Int)
      first | exact Int.le_refl _ | skip
    · exact hmax ▸ Int.natCast_nonneg _
    · exact hmax ▸ (by omega : (L : Int) ≤ 1099511627776)
  refine ev_made 7 16 L rfl rfl (show (if (b.length : Int) > (a.length : Int) then (b.length : Int) else (a.length : Int)).toNat = _ by rw [hmax]; rfl) ?_
  refine ev_at (α := Unit) (fun _ => True) (fun _ => [(7, .p (u64s (subL p a b)))]) (fun _ => []) ?_ ?_
  · refine ev_rs [] rfl trivial ?_
    refine ev_block (ev_while (α := Nat) (fun i => i ≤ L) (fun i => [(0, .p (polyF p)), (1, .p (u64s a)), (2, .p (u64s b)), (7, .own 16 0 L 1), (18, .p (i64 L)), (19, .p (i64 i))]) (fun i => [(16, ob64 (tabK f L i))]) (fun i => L - i) 0
      (Nat.zero_le _) (wk_ob rfl (fun hd => ⟨le_refl hd _, le_refl hd _, le_refl hd _, le_o rfl, le_refl hd _, le_refl hd _, trivial⟩)) ?_)
    rintro i h1
    refine ev_rs [] rfl trivial (ev_seq (ev_cond rfl (fun h => ev_sk ?_) (fun h => ev_exit ?_)))
    · have hi : i < L := Int.ofNat_lt.mp (of_decide_eq_true h)
      have hck := length_tabK f L i
      have hfi : f i = sb (a.getD i 0) (b.getD i 0) p := by rw [hf]
      refine ev_seq (ev_block ?_)
      refine ev_rs [] rfl trivial ?_
      refine ev_draw [u64 (a.getD i 0), u64 (b.getD i 0), u64 (f i)] (by kernel_rfl) rfl rfl ?_ ?_
      · rw [hfi]
        exact ⟨(by omega : i + 1 ≤ (tabK f L i).length), ⟨by omega, by omega⟩, .inl (Sb_spec hm _ _), .inl (at_spec b i), .inl (at_spec a i), Nat.zero_lt_one, trivial⟩
      refine ev_set 16 i (f i) rfl rfl rfl (by omega) ?_
      exact ev_region [] rfl trivial ⟨i + 1, hi, by dsimp only; omega, wk_ob rfl (fun hd => ⟨le_refl hd _, le_refl hd _, le_refl hd _, le_o rfl, le_refl hd _, le_n hd (congrArg (fun z => PV.val (.int .i64 z)) (wrapI _ (by omega) (by omega))), trivial⟩)⟩
    · have hi : i = L := by
        have := of_decide_eq_false h
        omega
      subst hi
      exact at0 () trivial ⟨le_fz' rfl (length_tabK f i i).symm hall, trivial⟩
  rintro ⟨⟩ -
  exact ev_rs [u64s (subN p a b)] rfl ⟨.inl (trim_spec _ (by rw [length_subL]; omega)), trivial⟩ (ev_ret (ret1 (fz_p (PLe.refl _))))

theorem PLe.drop {xs : List Nat} {n : Nat} (hn : n ≤ xs.length) : PLe (.sl (xs.length - n) 1 (fun j => u64 (xs.getD (n + j) 0))) (u64s (xs.drop n)) :=
  PLe.words (by simp) (fun j hj => by
    rw [List.getD_eq_getElem?_getD, List.getD_eq_getElem?_getD, List.getElem?_drop])

theorem parted_spec (a : List Nat) (n : Nat) (hl : a.length < 1000000) (hn : 0 < n) : CallSpec Tryz.pr.P Tryz.pr.G 52 [u64s a, i64 n] (.tup 2 (two (u64s (a.take n)) (u64s (a.drop n)))) := by
  obtain ⟨m, rfl⟩ : ∃ m, n = m + 1 := ⟨n - 1, by omega⟩
  refine callSpec_of Tryz.pr Tryz.func52 rfl rfl rfl fun w0 ok0 hok hG => ?_
  refine ev_rs [] rfl trivial ?_
  refine ev_seq (ev_rs [] rfl trivial (ev_cond rfl (fun h => ?_) (fun h => ev_sk ?_)))
  · have hi : a.length ≤ m + 1 := Int.ofNat_le.mp (of_decide_eq_true h)
    rw [List.take_of_length_le hi, List.drop_eq_nil_of_le hi]
    exact ev_rs [] rfl trivial (ev_ret (ret2 (fz_p (PLe.refl _)) (fz_p PLe.nil)))
  · have hi : m + 1 ≤ a.length := by
      have := of_decide_eq_false h
      omega
    exact ev_ds [] (by kernel_rfl) rfl rfl ⟨⟨by omega, by omega⟩, ⟨by omega, by omega⟩, trivial⟩ (ev_ret (ret2 (fz_p (PLe.take hi)) (fz_p (PLe.drop hi))))

/-- The three parts of a product by halves. -/
def partOf (low mid high : List Nat) : Nat → List Nat
  | 0 => low
  | 1 => mid
  | _ => high

/-- What is laid, part by part. -/
def stage (p : Nat) (low mid high : List Nat) (n L : Nat) : Nat → List Nat
  | 0 => List.replicate L 0
  | i + 1 => accK p (partOf low mid high i) (i * n) (stage p low mid high n L i) (partOf low mid high i).length

theorem length_stage (p : Nat) (low mid high : List Nat) (n L : Nat) : ∀ i, (stage p low mid high n L i).length = L
  | 0 => List.length_replicate
  | i + 1 => by unfold stage; rw [length_accK, length_stage p low mid high n L i]

theorem half_small {p : Nat} (hm : MayM p) (a b : List Nat) (hl : a.length < 100000) (hl2 : b.length < 100000) (h0 : (a.length ≤ 16 ∧ b.length ≤ 16) ∨ a.length = 0 ∨ b.length = 0) : CallSpec Tryz.pr.P Tryz.pr.G 34 [polyF p, u64s a, u64s b] (u64s (oneN p a b)) := by
  refine callSpec_of Tryz.pr Tryz.func34 rfl rfl rfl fun w0 ok0 hok hG => ?_
  refine ev_rs [] rfl trivial ?_
  refine ev_rs [] rfl trivial ?_
  refine ev_seq (ev_rs [] rfl (by repeat' (first | exact trivial | exact gd_t | exact gd_f | exact (fun _ => rfl) | intro _ | apply And.intro | assumption | exact rfl | exact gd_t (by assumption) | exact gd_f (by assumption) | exact gd_a (by assumption) (by assumption))) (ev_cond rfl (fun h => ?_) (fun h => ?_)))
  · exact ev_rs [u64s (oneN p a b)] rfl ⟨.inl (one_spec hm a b (by omega) (by omega)), trivial⟩ (ev_ret (ret1 (fz_p (PLe.refl _))))
  · exfalso
    have h : (bif (bif decide ((if (b.length : Int) > (a.length : Int) then (b.length : Int) else (a.length : Int)) ≤ 16) then true else (((a.length : Nat) : Int) == 0)) then true else (((b.length : Nat) : Int) == 0)) = false := h
    rcases h0 with h0 | h0 | h0
    · have e : decide ((if (b.length : Int) > (a.length : Int) then (b.length : Int) else (a.length : Int)) ≤ 16) = true := decide_eq_true (by split <;> omega)
      rw [e] at h
      cases h
    · rw [h0] at h
      cases hd : decide ((if (b.length : Int) > ((0 : Nat) : Int) then (b.length : Int) else ((0 : Nat) : Int)) ≤ 16) <;> rw [hd] at h <;> cases h
    · rw [h0] at h
      cases hd : (bif decide ((if ((0 : Nat) : Int) > (a.length : Int) then ((0 : Nat) : Int) else (a.length : Int)) ≤ 16) then true else (((a.length : Nat) : Int) == 0)) <;> rw [hd] at h <;> cases h

theorem length_addN (p : Nat) (a b : List Nat) : (addN p a b).length ≤ max a.length b.length := by
  unfold addN
  rw [length_trimN, ← length_addL p]
  exact trimL_le _ _

theorem length_subN (p : Nat) (a b : List Nat) : (subN p a b).length ≤ max a.length b.length := by
  unfold subN
  rw [length_trimN, ← length_subL p]
  exact trimL_le _ _

theorem half_all {p : Nat} (hm : MayM p) : ∀ (N : Nat) (a b : List Nat), max a.length b.length ≤ N → N < 100000 → CallSpec Tryz.pr.P Tryz.pr.G 34 [polyF p, u64s a, u64s b] (u64s (oneN p a b)) := by
  intro N
  induction N using Nat.strongRecOn with
  | ind N ih =>
  intro a b hN hN2
  by_cases h0 : (a.length ≤ 16 ∧ b.length ≤ 16) ∨ a.length = 0 ∨ b.length = 0
  · exact half_small hm a b (by omega) (by omega) h0
  have hp0 : 0 < p := by have := hm.1; omega
  obtain ⟨M, hM⟩ : ∃ M, max a.length b.length = M := ⟨_, rfl⟩
  obtain ⟨n, hn⟩ : ∃ n, (M + 1) / 2 = n := ⟨_, rfl⟩
  obtain ⟨L, hL⟩ : ∃ L, a.length + b.length - 1 = L := ⟨_, rfl⟩
  have hmax : (if (b.length : Int) > (a.length : Int) then (b.length : Int) else (a.length : Int)) = (M : Int) := by rw [← hM]; split <;> omega
  have ha1 : (a.take n).length ≤ n := by rw [List.length_take]; omega
  have hb1 : (b.take n).length ≤ n := by rw [List.length_take]; omega
  have ha2 : (a.drop n).length ≤ n := by rw [List.length_drop]; omega
  have hb2 : (b.drop n).length ≤ n := by rw [List.length_drop]; omega
  have hla := length_addN p (a.take n) (a.drop n)
  have hlb := length_addN p (b.take n) (b.drop n)
  have hlow := ih n (by omega) (a.take n) (b.take n) (by omega) (by omega)
  have hhigh := ih n (by omega) (a.drop n) (b.drop n) (by omega) (by omega)
  have hmid0 := ih n (by omega) (addN p (a.take n) (a.drop n)) (addN p (b.take n) (b.drop n)) (by omega) (by omega)
  have hjoin := join_all hp0 a b n (by omega) (by omega) (by omega)
  have l1 := low_len p a b n (by omega) (by omega)
  have l2 := mid_len' hp0 a b n (by omega) (by omega) (by omega)
  have l3 : (oneN p (a.drop n) (b.drop n)).length = 0 ∨ 2 * n + (oneN p (a.drop n) (b.drop n)).length ≤ L := by
    rw [length_oneN', List.length_drop, List.length_drop]
    split
    · exact .inl rfl
    · exact .inr (by omega)
  rw [hL] at l1 l2
  have hlm : (oneN p (addN p (a.take n) (a.drop n)) (addN p (b.take n) (b.drop n))).length ≤ 2 * n := by
    have := length_oneN p (addN p (a.take n) (a.drop n)) (addN p (b.take n) (b.drop n))
    omega
  have hll : (oneN p (a.take n) (b.take n)).length ≤ 2 * n := by
    have := length_oneN p (a.take n) (b.take n)
    omega
  have hlh : (oneN p (a.drop n) (b.drop n)).length ≤ 2 * n := by
    have := length_oneN p (a.drop n) (b.drop n)
    omega
  have hls1 := length_subN p (oneN p (addN p (a.take n) (a.drop n)) (addN p (b.take n) (b.drop n))) (oneN p (a.take n) (b.take n))
  have hmidE : midN p a b n = subN p (subN p (oneN p (addN p (a.take n) (a.drop n)) (addN p (b.take n) (b.drop n))) (oneN p (a.take n) (b.take n))) (oneN p (a.drop n) (b.drop n)) := rfl
  have hjoinE : joinN p a b n = accK p (oneN p (a.drop n) (b.drop n)) (2 * n) (accK p (midN p a b n) (1 * n) (accK p (oneN p (a.take n) (b.take n)) (0 * n) (List.replicate L 0) (oneN p (a.take n) (b.take n)).length) (midN p a b n).length) (oneN p (a.drop n) (b.drop n)).length := by rw [← hL]; rfl
  have hP1 := parted_spec a n (by omega) (by omega)
  have hP2 := parted_spec b n (by omega) (by omega)
  have hA1 := UAdd_spec hm (a.take n) (a.drop n) (by omega) (by omega)
  have hA2 := UAdd_spec hm (b.take n) (b.drop n) (by omega) (by omega)
  have hS1 := USub_spec hm (oneN p (addN p (a.take n) (a.drop n)) (addN p (b.take n) (b.drop n))) (oneN p (a.take n) (b.take n)) (by omega) (by omega)
  have hS2 := USub_spec hm (subN p (oneN p (addN p (a.take n) (a.drop n)) (addN p (b.take n) (b.drop n))) (oneN p (a.take n) (b.take n))) (oneN p (a.drop n) (b.drop n)) (by omega) (by omega)
  rw [← hmidE] at hS2
  rw [← hjoin, hjoinE]
  clear hmidE hjoinE hjoin hlm hll hlh hla hlb
  generalize oneN p (addN p (a.take n) (a.drop n)) (addN p (b.take n) (b.drop n)) = mid0 at *
  generalize addN p (a.take n) (a.drop n) = sa at *
  generalize addN p (b.take n) (b.drop n) = sb' at *
  generalize oneN p (a.take n) (b.take n) = low at *
  generalize oneN p (a.drop n) (b.drop n) = high at *
  generalize midN p a b n = mid at *
  generalize subN p mid0 low = sub1 at *
  generalize a.take n = al at *
  generalize a.drop n = ah at *
  generalize b.take n = bl at *
  generalize b.drop n = bh at *
  have hstage : stage p low mid high n L 3 = accK p high (2 * n) (accK p mid (1 * n) (accK p low (0 * n) (List.replicate L 0) low.length) mid.length) high.length := rfl
  rw [← hstage]
  have hbnd : ∀ i, i < 3 → ∀ k, k < (partOf low mid high i).length → i * n + k < L := fun i hi k hk => by
    match i, hi with
    | 0, _ => have hk : k < low.length := hk; omega
    | 1, _ => have hk : k < mid.length := hk; omega
    | 2, _ => have hk : k < high.length := hk; omega
  have e1 : IntKind.wrap .i64 ((IntKind.wrap .i64 ((M : Int) + 1)).tdiv 2) = (n : Int) := by
    rw [wrapI ((M : Int) + 1) (by omega) (by omega)]
    have : ((M : Int) + 1).tdiv 2 = ((M + 1) / 2 : Nat) := rfl
    rw [this, hn, wrapI _ (by omega) (by omega)]
  have e2 : IntKind.wrap .i64 (IntKind.wrap .i64 ((a.length : Int) + (b.length : Int)) - 1) = (L : Int) := by
    rw [wrapI ((a.length : Int) + (b.length : Int)) (by omega) (by omega), wrapI _ (by omega) (by omega)]; omega
  refine callSpec_of Tryz.pr Tryz.func34 rfl rfl rfl fun w0 ok0 hok hG => ?_
  refine ev_rs [] rfl trivial ?_
  refine ev_rs [] rfl trivial (ev_eq 7 (.p (i64 M)) (congrArg (fun z => AV.p (PV.val (.int .i64 z))) hmax) ?_)
  have hc : (bif (bif decide ((M : Int) ≤ 16) then true else (((a.length : Nat) : Int) == 0)) then true else (((b.length : Nat) : Int) == 0)) = false := by
    rw [decide_eq_false (by omega), beq_eq_false_iff_ne.mpr (by omega), beq_eq_false_iff_ne.mpr (by omega)]
    rfl
  refine ev_seq (ev_rs [] rfl (by repeat' (first | exact trivial | exact gd_t | exact gd_f | exact (fun _ => rfl) | intro _ | apply And.intro | assumption | exact rfl | exact gd_t (by assumption) | exact gd_f (by assumption) | exact gd_a (by assumption) (by assumption))) (ev_cf (congrArg (fun z => AV.p (PV.val (.bool z))) hc) (ev_sk ?_)))
  refine ev_rs [] rfl ⟨by decide, trivial⟩ (ev_eq 7 (.p (i64 n)) (congrArg (fun z => AV.p (PV.val (.int .i64 z))) e1) ?_)
  refine ev_rs [.tup 2 (two (u64s al) (u64s ah))] rfl ⟨.inl hP1, trivial⟩ ?_
  refine ev_rs [.tup 2 (two (u64s bl) (u64s bh))] rfl ⟨.inl hP2, trivial⟩ ?_
  refine ev_rs [u64s low, u64s high] rfl ⟨.inl hhigh, .inl hlow, trivial⟩ ?_
  refine ev_rs [u64s sa, u64s sb', u64s mid0] rfl ⟨.inl hmid0, .inl hA2, .inl hA1, trivial⟩ ?_
  refine ev_rs [u64s sub1, u64s mid] rfl ⟨.inl hS2, .inl hS1, trivial⟩ ?_
  refine ev_wk (σ' := mk [(0, .p (polyF p)), (1, .p (u64s a)), (2, .p (u64s b)), (7, .p (i64 n)), (12, .p (u64s low)), (13, .p (u64s high)), (14, .p (u64s mid))] []) (wk (fun i => i) ⟨le_0, le_0, le_0, le_0, le_0, le_0, le_0, trivial⟩ trivial rfl) ?_
  refine ev_rs [] rfl ?_ ?_
  · rw [e2]
    exact ⟨⟨by omega, by omega, by omega⟩, trivial⟩
  refine ev_made 15 87 L rfl rfl (show (IntKind.wrap .i64 (IntKind.wrap .i64 ((a.length : Int) + (b.length : Int)) - 1)).toNat = _ by rw [e2]; rfl) ?_
  refine ev_at (α := Unit) (fun _ => True) (fun _ => [(15, .own 87 0 L 1)]) (fun _ => [(87, ob64 (stage p low mid high n L 3))]) ?_ ?_
  · refine ev_rs [] rfl trivial ?_
    refine ev_block (ev_while (α := Nat) (fun i => i ≤ 3) (fun i => [(0, .p (polyF p)), (7, .p (i64 n)), (15, .own 87 0 L 1), (91, .p (.sl 3 1 (fun j => u64s (partOf low mid high j)))), (92, .p (i64 (3 : Nat))), (93, .p (i64 i))]) (fun i => [(87, ob64 (stage p low mid high n L i))]) (fun i => 3 - i) 0
      (Nat.zero_le _) (wk1 _ rfl (Nat.le_refl _) (fun hr j _ => le_refl hr _) (fun hd => ⟨le_refl hd _, le_refl hd _, le_o rfl, le_freeze (i := 91) (off := 0) hd rfl (Nat.le_refl 3) (fun k hk => ?_) (fun j hj => ?_), le_refl hd _, le_refl hd _, trivial⟩)) ?_)
    · have := hOf_mem k hk
      simp at this
      show k ≠ 91
      omega
    · match j, hj with
      | 0, _ => exact le_refl hd _
      | 1, _ => exact le_refl hd _
      | 2, _ => exact le_refl hd _
    rintro i h1
    refine ev_rs [] rfl trivial (ev_seq (ev_cond rfl (fun h => ev_sk ?_) (fun h => ev_exit ?_)))
    · have hi : i < 3 := Int.ofNat_lt.mp (of_decide_eq_true h)
      obtain ⟨part, hpart⟩ : ∃ part, partOf low mid high i = part := ⟨_, rfl⟩
      have hb := hbnd i hi
      have hsl := length_stage p low mid high n L i
      have hst : stage p low mid high n L (i + 1) = accK p (partOf low mid high i) (i * n) (stage p low mid high n L i) (partOf low mid high i).length := rfl
      have hpl : (partOf low mid high i).length < 1000000 := by
        rcases Nat.eq_zero_or_pos (partOf low mid high i).length with h | h
        · omega
        · have := hb ((partOf low mid high i).length - 1) (by omega)
          omega
      have hin : i * n < 1000000 := by
        have : i * n ≤ 2 * n := Nat.mul_le_mul_right _ (by omega)
        omega
      rw [hpart] at hb hst hpl
      refine ev_seq (ev_block ?_)
      refine ev_rs [] rfl ⟨hi, ⟨by omega, by omega⟩, trivial⟩ (ev_eq 17 (.p (u64s part)) (congrArg (fun l => AV.p (u64s l)) hpart) ?_)
      refine ev_rs [] rfl trivial ?_
      refine ev_block (ev_while (α := Nat) (fun k => k ≤ part.length) (fun k => [(0, .p (polyF p)), (7, .p (i64 n)), (15, .own 87 0 L 1), (16, .p (i64 i)), (91, .p (.sl 3 1 (fun j => u64s (partOf low mid high j)))), (92, .p (i64 (3 : Nat))), (93, .p (i64 i)), (98, .p (u64s part)), (99, .p (i64 part.length)), (100, .p (i64 k))])
        (fun k => [(87, ob64 (accK p part (i * n) (stage p low mid high n L i) k))]) (fun k => part.length - k) 0
        (Nat.zero_le _) (wk_ob rfl (fun hd => ⟨le_refl hd _, le_refl hd _, le_o rfl, le_refl hd _, le_refl hd _, le_refl hd _, le_refl hd _, le_refl hd _, le_refl hd _, le_refl hd _, trivial⟩)) ?_)
      rintro k h2
      refine ev_rs [] rfl trivial (ev_seq (ev_cond rfl (fun h => ev_sk ?_) (fun h => ev_exit ?_)))
      · have hk : k < part.length := Int.ofNat_lt.mp (of_decide_eq_true h)
        have hbk := hb k hk
        obtain ⟨o, ho⟩ : ∃ o, accK p part (i * n) (stage p low mid high n L i) k = o := ⟨_, rfl⟩
        have hol : o.length = L := by rw [← ho, length_accK, hsl]
        have e3 : IntKind.wrap .i64 (IntKind.wrap .i64 ((i : Int) * (n : Int)) + (k : Int)) = ((i * n + k : Nat) : Int) := by
          rw [← Int.natCast_mul, wrapI ((i * n : Nat) : Int) (by omega) (by omega), wrapI _ (by omega) (by omega)]; omega
        refine ev_seq (ev_block ?_)
        refine ev_ob 87 (ob64 o) (congrArg (fun l => some (ob64 l)) ho) ?_
        refine ev_rs [] rfl ⟨hk, ⟨by omega, by omega⟩, trivial⟩ ?_
        refine ev_rs [] rfl trivial (ev_cond rfl (fun h => ?_) (fun h => ?_))
        · have hne : part.getD k 0 ≠ 0 := fun e => (bne_iff_ne.mp h) (Int.ofNat_inj.mpr e)
          have hsk : accK p part (i * n) (stage p low mid high n L i) (k + 1) = o.set (i * n + k) ((o.getD (i * n + k) 0 + part.getD k 0) % p) := by rw [← ho]; exact if_neg hne
          refine ev_draw [u64 ((o.getD (i * n + k) 0 + part.getD k 0) % p)] (by kernel_rfl) rfl rfl ?_ ?_
          · rw [e3]
            exact ⟨(by omega : i * n + k + 1 ≤ o.length), ⟨by omega, by omega⟩, .inl (Add_spec hm _ _), (by omega : i * n + k < o.length), ⟨by omega, by omega⟩, Nat.zero_lt_one, trivial⟩
          refine ev_set 87 (i * n + k) ((o.getD (i * n + k) 0 + part.getD k 0) % p) rfl (by show (IntKind.wrap .i64 (IntKind.wrap .i64 ((i : Int) * (n : Int)) + (k : Int))).toNat = _; rw [e3]; rfl) rfl (by omega) ?_
          exact ev_region [] rfl trivial ⟨k + 1, hk, by dsimp only; omega, wk_ob (congrArg (fun l => some (ob64 l)) hsk.symm) (fun hd => ⟨le_refl hd _, le_refl hd _, le_o rfl, le_refl hd _, le_refl hd _, le_refl hd _, le_refl hd _, le_refl hd _, le_refl hd _, le_n hd (congrArg (fun z => PV.val (.int .i64 z)) (wrapI _ (by omega) (by omega))), trivial⟩)⟩
        · have heq : part.getD k 0 = 0 := Int.ofNat_inj.mp (bne_eq_false_iff_eq.mp h)
          have hsk : accK p part (i * n) (stage p low mid high n L i) (k + 1) = o := by rw [← ho]; exact if_pos heq
          refine ev_skip ?_
          exact ev_region [] rfl trivial ⟨k + 1, hk, by dsimp only; omega, wk_ob (congrArg (fun l => some (ob64 l)) hsk.symm) (fun hd => ⟨le_refl hd _, le_refl hd _, le_o rfl, le_refl hd _, le_refl hd _, le_refl hd _, le_refl hd _, le_refl hd _, le_refl hd _, le_n hd (congrArg (fun z => PV.val (.int .i64 z)) (wrapI _ (by omega) (by omega))), trivial⟩)⟩
      · have hk : k = part.length := by
          have := of_decide_eq_false h
          omega
        subst hk
        exact ev_region [] rfl trivial ⟨i + 1, hi, by dsimp only; omega, wk_ob (congrArg (fun l => some (ob64 l)) hst.symm) (fun hd => ⟨le_refl hd _, le_refl hd _, le_o rfl, le_refl hd _, le_refl hd _, le_n hd (congrArg (fun z => PV.val (.int .i64 z)) (wrapI _ (by omega) (by omega))), trivial⟩)⟩
    · have hi : i = 3 := by
        have := of_decide_eq_false h
        omega
      subst hi
      exact at_ob () trivial rfl (fun hd => ⟨le_o rfl, trivial⟩)
  rintro ⟨⟩ -
  exact ev_rs [] rfl trivial (ev_ret (ret1 (fz_ob' rfl (length_stage p low mid high n L 3).symm rfl)))

theorem half_spec' {p : Nat} (hm : MayM p) (a b : List Nat) (hl : a.length < 50000) (hl2 : b.length < 50000) : CallSpec Tryz.pr.P Tryz.pr.G 34 [polyF p, u64s a, u64s b] (u64s (oneN p a b)) := half_all hm _ a b (Nat.le_refl _) (by omega)

theorem times_all {p : Nat} (hm : MayM p) (a b : List Nat) (hl : a.length < 50000) (hl2 : b.length < 50000) : CallSpec Tryz.pr.P Tryz.pr.G 44 [polyF p, u64s a, u64s b] (u64s (timesN p a b)) := by
  refine callSpec_of Tryz.pr Tryz.func44 rfl rfl rfl fun w0 ok0 hok hG => ?_
  refine ev_rs [] rfl trivial ?_
  have := length_oneN p a b
  exact ev_rs [u64s (oneN p a b), u64s (timesN p a b)] rfl ⟨.inl (trim_spec _ (by omega)), .inl (half_spec' hm a b hl hl2), trivial⟩ (ev_ret (ret1 (fz_p (PLe.refl _))))

end Go.Proofs
