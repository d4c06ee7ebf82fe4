/- Part 5 of the proof's texts, joined: S1, S2, R4, R5, R6, R7, Mulw, T1, T2. -/
import Derived.Test.YtmfmgcnliihidaaGreatDoorB4

/- slices.Sort, walked: short rows. -/
set_option linter.unusedVariables false
namespace Go.Proofs
open Go Vinc Vinc.Num

theorem isNaN_spec (x : Nat) : CallSpec Tryz.pr.P Tryz.pr.G 93 [u64 x] (Vinc.bool false) := by
  refine callSpec_of Tryz.pr Tryz.func93 rfl rfl rfl fun w0 ok0 hok hG => ?_
  refine ev_rs [] rfl trivial ?_
  exact ev_rs [] rfl trivial (ev_ret (ret1 (fz_p (PLe.of_eq (congrArg Vinc.bool (bne_self_eq_false _))))))

theorem less_spec (x y : Nat) : CallSpec Tryz.pr.P Tryz.pr.G 76 [u64 x, u64 y] (Vinc.bool (decide ((x : Int) < (y : Int)))) := by
  refine callSpec_of Tryz.pr Tryz.func76 rfl rfl rfl fun w0 ok0 hok hG => ?_
  refine ev_rs [] rfl trivial ?_
  refine ev_rs [Vinc.bool false, Vinc.bool false] rfl ?_ ?_
  · exact (by repeat' (first | exact trivial | exact gd_t | exact gd_f | exact .inl (isNaN_spec x) | exact .inl (isNaN_spec y) | exact (fun _ => rfl) | intro _ | apply And.intro | assumption | exact rfl | exact gd_t (by assumption) | exact gd_f (by assumption) | exact gd_a (by assumption) (by assumption) | exact gd_b (by assumption) (by assumption)))
  exact ev_ret (ret1 (fz_p (PLe.refl _)))

theorem bitsLen_spec (x : Nat) (hx : x < 18446744073709551616) : CallSpec Tryz.pr.P Tryz.pr.G 56 [u64 x] (i64 (len64 x)) := by
  refine callSpec_of Tryz.pr Tryz.func56 rfl rfl rfl fun w0 ok0 hok hG => ?_
  refine ev_rs [] rfl trivial ?_
  refine ev_seq (ev_cf rfl (ev_sk ?_))
  exact ev_rs [i64 (len64 x)] rfl ⟨.inl (Len64_spec x hx), trivial⟩ (ev_ret (ret1 (fz_p (PLe.refl _))))

theorem sub20 (xs : List Nat) : ∀ q ∈ [((20 : Nat), ob64 xs)], ∀ j, j < q.2.n → subA ([((20 : Nat), ob64 xs)].map (·.1)) (q.2.f j) := fun q hq j hj => by
  obtain rfl := List.mem_singleton.mp hq
  trivial

theorem pre20 (xs ys : List Nat) : ∀ q ∈ [((20 : Nat), ob64 xs)], (hOf [((20 : Nat), ob64 ys)] q.1).isSome = true ∧ (fun i : Nat => i) q.1 = q.1 := fun q hq => by
  obtain rfl := List.mem_singleton.mp hq
  exact ⟨rfl, rfl⟩

theorem obs20 {c : Cx} {σ : St} {ys : List Nat} (h : σ.h 20 = some (ob64 ys)) : Obs c σ (mk [] [(20, ob64 ys)]) (fun i => i) [(20, ob64 ys)] :=
  ⟨⟨_, h, Nat.le_refl _, fun j _ => le_refl (ren_list fun q hq => by
    obtain rfl := List.mem_singleton.mp hq
    show (σ.h 20).isSome = true
    rw [h]; rfl) _⟩, trivial⟩

set_option maxHeartbeats 2000000 in
theorem ins_spec (xs : List Nat) (a b : Nat) (hab : a ≤ b) (hb : b ≤ xs.length) (hl : xs.length < 100000) :
    CallSpecX Tryz.pr.P Tryz.pr.G 70 [.own 20 0 xs.length 1, .p (i64 a), .p (i64 b)] [(20, ob64 xs)] [(20, ob64 (sortR xs a b))] (.p (.val (.tuple #[]))) := by
  refine callSpecX_of Tryz.pr Tryz.func70 rfl rfl rfl (fun z hz => ?_) (sub20 xs) fun w0 ok0 hok hG mine hmine lc => ?_
  · simp only [List.mem_cons, List.not_mem_nil, or_false] at hz
    rcases hz with rfl | rfl | rfl
    · exact List.mem_cons_self
    · trivial
    · trivial
  refine ev_rs [] rfl trivial ?_
  refine ev_block (ev_while (α := Nat × List Nat) (fun q => a + 1 ≤ q.1 ∧ (q.1 ≤ b ∨ q.1 = a + 1) ∧ Pm xs q.2 a b ∧ Asc q.2 a q.1)
    (fun q => [(0, .own 20 0 xs.length 1), (1, .p (i64 a)), (2, .p (i64 b)), (6, .p (i64 q.1)), (1000, .is 20 (lc 20))]) (fun q => [(20, ob64 q.2)]) (fun q => b - q.1) (a + 1, xs)
    ⟨Nat.le_refl _, .inr rfl, Pm.refl _ _ _, fun u v h1 h2 h3 => by dsimp only at h3; omega⟩ (wk_ob rfl (fun hd => ⟨le_o rfl, le_refl hd _, le_refl hd _, le_n hd (congrArg (fun z => PV.val (.int .i64 z)) (wrapI _ (by omega) (by omega))), le_s rfl, trivial⟩)) ?_)
  rintro ⟨i, ys⟩ ⟨h1, h2, h3, h4⟩
  dsimp only at h1 h2 h3 h4
  have hyl := h3.len
  refine ev_seq (ev_rs [] rfl trivial (ev_cond rfl (fun h => ev_sk ?_) (fun h => ev_exit ?_)))
  · have hi : i < b := Int.ofNat_lt.mp (of_decide_eq_true h)
    refine ev_seq (ev_block (ev_rs [] rfl trivial ?_))
    refine ev_block (ev_while (α := Nat × List Nat) (fun q => a ≤ q.1 ∧ q.1 ≤ i ∧ Pm xs q.2 a b ∧ InsI q.2 a i q.1)
      (fun q => [(0, .own 20 0 xs.length 1), (1, .p (i64 a)), (2, .p (i64 b)), (6, .p (i64 i)), (7, .p (i64 q.1)), (1000, .is 20 (lc 20))]) (fun q => [(20, ob64 q.2)]) (fun q => q.1) (i, ys)
      ⟨by dsimp only; omega, Nat.le_refl _, h3, InsI.start h4⟩ (wk_ob rfl (fun hd => ⟨le_o rfl, le_refl hd _, le_refl hd _, le_refl hd _, le_refl hd _, le_s rfl, trivial⟩)) ?_)
    rintro ⟨j, zs⟩ ⟨g1, g2, g3, g4⟩
    dsimp only at g1 g2 g3 g4
    have hzl := g3.len
    have fin : (j = a ∨ (a < j ∧ zs.getD (j - 1) 0 ≤ zs.getD j 0)) → Asc zs a (i + 1) := fun h => InsI.stop g4 h
    by_cases hj : a < j
    · obtain ⟨k, rfl⟩ : ∃ k, j = k + 1 := ⟨j - 1, by omega⟩
      have hc : decide (((k + 1 : Nat) : Int) > (a : Int)) = true := decide_eq_true (by omega)
      have ek : IntKind.wrap .i64 (((k + 1 : Nat) : Int) - 1) = (k : Int) := (wrapI _ (by omega) (by omega)).trans (by omega)
      have i0 : (0 : Int) ≤ ((k + 1 : Nat) : Int) := by omega
      have i1 : ((k + 1 : Nat) : Int) < (xs.length : Int) := by omega
      have hL : CallSpec Tryz.pr.P Tryz.pr.G 76 [u64 (zs.getD (k + 1) 0), u64 (zs.getD (IntKind.wrap .i64 (((k + 1 : Nat) : Int) - 1)).toNat 0)] (Vinc.bool (decide (((zs.getD (k + 1) 0 : Nat) : Int) < ((zs.getD k 0 : Nat) : Int)))) := by
        rw [ek]
        exact less_spec _ _
      have c1 : (IntKind.wrap .i64 (((k + 1 : Nat) : Int) - 1)).toNat < zs.length := by rw [ek, Int.toNat_natCast]; omega
      have c2 : 0 ≤ IntKind.wrap .i64 (((k + 1 : Nat) : Int) - 1) := by rw [ek]; omega
      have c3 : IntKind.wrap .i64 (((k + 1 : Nat) : Int) - 1) < (xs.length : Int) := by rw [ek]; omega
      have c4 : k + 1 < zs.length := by omega
      have e5 : (IntKind.wrap .i64 (((k + 1 : Nat) : Int) - 1)).toNat = k := by rw [ek, Int.toNat_natCast]
      refine ev_seq (ev_ds [Vinc.bool (decide (((zs.getD (k + 1) 0 : Nat) : Int) < ((zs.getD k 0 : Nat) : Int)))] (by kernel_rfl) rfl rfl (by repeat' (first | exact trivial | exact gd_t | exact gd_f | exact i0 | exact i1 | exact .inl hL | exact c1 | exact c2 | exact c3 | exact c4 | exact (fun _ => rfl) | intro _ | apply And.intro | assumption | exact rfl | exact gd_t (by assumption) | exact gd_f (by assumption) | exact gd_a (by assumption) (by assumption) | exact gd_b (by assumption) (by assumption))) ?_)
      by_cases hlt : zs.getD (k + 1) 0 < zs.getD k 0
      · have hcc : (bif decide (((k + 1 : Nat) : Int) > (a : Int)) then decide (((zs.getD (k + 1) 0 : Nat) : Int) < ((zs.getD k 0 : Nat) : Int)) else false) = true := by
          rw [hc]
          exact decide_eq_true (by omega)
        refine ev_ct (congrArg (fun z => AV.p (PV.val (.bool z))) hcc) (ev_sk ?_)
        refine ev_seq (ev_block (ev_draw [] (by kernel_rfl) rfl rfl (by repeat' (first | exact trivial | exact gd_t | exact gd_f | exact i0 | exact i1 | exact c1 | exact c2 | exact c3 | exact c4 | exact (fun _ => rfl) | intro _ | apply And.intro | assumption | exact rfl | exact gd_t (by assumption) | exact gd_f (by assumption) | exact gd_a (by assumption) (by assumption) | exact gd_b (by assumption) (by assumption))) (ev_swap 20 (k + 1) k rfl rfl (show (IntKind.wrap .i64 (((k + 1 : Nat) : Int) - 1)).toNat = k from e5) (show u64 (zs.getD (IntKind.wrap .i64 (((k + 1 : Nat) : Int) - 1)).toNat 0) = _ by rw [e5]) rfl c4 (show k < zs.length by omega) ?_)))
        exact ev_region [] rfl trivial ⟨(k, swp zs (k + 1) k), ⟨by dsimp only; omega, by dsimp only; omega, g3.swp (by omega) (by omega) (by omega) (by omega) hb, InsI.step g4 (by omega) g2 (by omega) hlt⟩, Nat.lt_succ_self k, wk_ob rfl (fun hd => ⟨le_o rfl, le_refl hd _, le_refl hd _, le_refl hd _, le_n hd (congrArg (fun z => PV.val (.int .i64 z)) ek), le_s rfl, trivial⟩)⟩
      · have hcc : (bif decide (((k + 1 : Nat) : Int) > (a : Int)) then decide (((zs.getD (k + 1) 0 : Nat) : Int) < ((zs.getD k 0 : Nat) : Int)) else false) = false := by
          rw [hc]
          exact decide_eq_false (by omega)
        refine ev_cf (congrArg (fun z => AV.p (PV.val (.bool z))) hcc) (ev_exit ?_)
        have hA := fin (.inr ⟨hj, by rw [Nat.add_sub_cancel]; exact Nat.le_of_not_lt hlt⟩)
        exact ev_region [] rfl trivial ⟨(i + 1, zs), ⟨by dsimp only; omega, .inl hi, g3, hA⟩, by dsimp only; omega, wk_ob rfl (fun hd => ⟨le_o rfl, le_refl hd _, le_refl hd _, le_n hd (congrArg (fun z => PV.val (.int .i64 z)) (wrapI _ (by omega) (by omega))), le_s rfl, trivial⟩)⟩
    · have hja : j = a := by omega
      have hc : decide ((j : Int) > (a : Int)) = false := decide_eq_false (by omega)
      have hno : ∀ {P : Prop}, (decide ((j : Int) > (a : Int)) == true) = true → P := fun e => by rw [hc] at e; cases e
      refine ev_seq (ev_ds [Vinc.bool false] (by kernel_rfl) rfl rfl (by repeat' (first | exact trivial | exact gd_t | exact gd_f | exact fun e => hno e | exact (fun _ => rfl) | intro _ | apply And.intro | assumption | exact rfl | exact gd_t (by assumption) | exact gd_f (by assumption) | exact gd_a (by assumption) (by assumption) | exact gd_b (by assumption) (by assumption))) ?_)
      refine ev_cf (congrArg (fun z => AV.p (PV.val (.bool z))) (show (bif decide ((j : Int) > (a : Int)) then false else false) = false by rw [hc]; rfl)) (ev_exit ?_)
      have hA := fin (.inl hja)
      exact ev_region [] rfl trivial ⟨(i + 1, zs), ⟨by dsimp only; omega, .inl hi, g3, hA⟩, by dsimp only; omega, wk_ob rfl (fun hd => ⟨le_o rfl, le_refl hd _, le_refl hd _, le_n hd (congrArg (fun z => PV.val (.int .i64 z)) (wrapI _ (by omega) (by omega))), le_s rfl, trivial⟩)⟩
  · have hi : b ≤ i := by
      have := of_decide_eq_false h
      omega
    have hys : ys = sortR xs a b := sortR_of hab hb h3 fun u v e1 e2 e3 => h4 u v e1 e2 (by omega)
    exact retX0 (fun i => i) (pre20 xs _) ⟨rfl, trivial⟩ (obs20 (congrArg (fun l => some (ob64 l)) hys)) rfl

end Go.Proofs

/- slices.Sort, walked: at most twelve words. -/
set_option linter.unusedVariables false
namespace Go.Proofs
open Go Vinc Vinc.Num

theorem pdq_small (xs : List Nat) (a b : Nat) (lim : Int) (hab : a ≤ b) (hb : b ≤ xs.length) (hl : xs.length < 100000) (h12 : b ≤ a + 12) :
    CallSpecX Tryz.pr.P Tryz.pr.G 55 [.own 20 0 xs.length 1, .p (i64 a), .p (i64 b), .p (i64 lim)] [(20, ob64 xs)] [(20, ob64 (sortR xs a b))] (.p (.val (.tuple #[]))) := by
  refine callSpecX_of Tryz.pr Tryz.func55 rfl rfl rfl (fun z hz => ?_) (sub20 xs) fun w0 ok0 hok hG mine hmine lc => ?_
  · simp only [List.mem_cons, List.not_mem_nil, or_false] at hz
    rcases hz with rfl | rfl | rfl | rfl
    · exact List.mem_cons_self
    · trivial
    · trivial
    · trivial
  refine ev_rs [] rfl trivial ?_
  refine ev_rs [] rfl trivial ?_
  refine ev_block (ev_while (α := Unit) (fun _ => True)
    (fun _ => [(0, .own 20 0 xs.length 1), (1, .p (i64 a)), (2, .p (i64 b)), (3, .p (i64 lim)), (1000, .is 20 (lc 20))]) (fun _ => [(20, ob64 xs)]) (fun _ => 0) ()
    trivial (wk_ob rfl (fun hd => ⟨le_o rfl, le_refl hd _, le_refl hd _, le_refl hd _, le_s rfl, trivial⟩)) ?_)
  rintro ⟨⟩ -
  have ew : IntKind.wrap .i64 ((b : Int) - (a : Int)) = (b : Int) - (a : Int) := wrapI _ (by omega) (by omega)
  have hc : decide (IntKind.wrap .i64 ((b : Int) - (a : Int)) ≤ 12) = true := by rw [ew]; exact decide_eq_true (by omega)
  refine ev_block ?_
  refine ev_rs [] rfl trivial ?_
  refine ev_seq (ev_rs [] rfl trivial (ev_ct (congrArg (fun z => AV.p (PV.val (.bool z))) hc) ?_))
  refine ev_rg [.x ⟨[.own 20 0 xs.length 1, .p (i64 a), .p (i64 b)], [(20, ob64 xs)], [(20, ob64 (sortR xs a b))], .p (.val (.tuple #[]))⟩] rfl ⟨⟨rfl, ⟨rfl, trivial⟩, ins_spec xs a b hab hb hl⟩, trivial⟩ (ev_ret ?_)
  exact retX0 (fun i => i) (pre20 xs _) ⟨rfl, trivial⟩ (obs20 rfl) rfl

theorem sort_spec (xs : List Nat) (h12 : xs.length ≤ 12) :
    CallSpecX Tryz.pr.P Tryz.pr.G 31 [.own 20 0 xs.length 1] [(20, ob64 xs)] [(20, ob64 (sortN xs))] (.p (.val (.tuple #[]))) := by
  have hw : IntKind.wrap .u64 (xs.length : Int) = (xs.length : Int) := (wrapN xs.length).trans (congrArg (fun n : Nat => (n : Int)) (Nat.mod_eq_of_lt (by omega)))
  have hB : CallSpec Tryz.pr.P Tryz.pr.G 56 [PV.val (.int .u64 (IntKind.wrap .u64 (xs.length : Int)))] (i64 (len64 xs.length)) := by
    rw [hw]
    exact bitsLen_spec _ (by omega)
  have hS := pdq_small xs 0 xs.length (len64 xs.length) (Nat.zero_le _) (Nat.le_refl _) (by omega) (by omega)
  rw [sortR_all] at hS
  refine callSpecX_of Tryz.pr Tryz.func31 rfl rfl rfl (fun z hz => ?_) (sub20 xs) fun w0 ok0 hok hG mine hmine lc => ?_
  · obtain rfl := List.mem_singleton.mp hz
    exact List.mem_cons_self
  refine ev_rs [] rfl trivial ?_
  refine ev_regionG [.v (i64 (len64 xs.length)), .x ⟨[.own 20 0 xs.length 1, .p (i64 0), .p (i64 xs.length), .p (i64 (len64 xs.length))], [(20, ob64 xs)], [(20, ob64 (sortN xs))], .p (.val (.tuple #[]))⟩] rfl (by repeat' (first | exact trivial | exact gd_t | exact gd_f | exact .inl hB | exact hS | exact (fun _ => rfl) | intro _ | apply And.intro | assumption | exact rfl | exact gd_t (by assumption) | exact gd_f (by assumption) | exact gd_a (by assumption) (by assumption) | exact gd_b (by assumption) (by assumption))) ?_
  exact retX0 (fun i => i) (pre20 xs _) ⟨rfl, trivial⟩ (obs20 rfl) rfl

end Go.Proofs

/- roots, walked: all roots. -/
set_option linter.unusedVariables false
namespace Go.Proofs
open Go Vinc Vinc.Num

set_option maxRecDepth 40000 in
theorem Roots_bad {p : Nat} {a seeds : List Nat} {e : Nat} (he : e ≠ 0) (h : CallSpec Tryz.pr.P Tryz.pr.G 15 [u64 p, u64s a] (.tup 2 (two nilS (i64 e)))) : CallSpec Tryz.pr.P Tryz.pr.G 13 [u64 p, u64s a, u64s seeds] (.tup 2 (two nilS (i64 e))) := by
  have hc : ((e : Int) != 0) = true := bne_iff_ne.mpr fun h => he (Int.ofNat_inj.mp h)
  refine callSpec_of Tryz.pr Tryz.func13 rfl rfl rfl fun w0 ok0 hok hG => ?_
  refine ev_rs [] rfl trivial ?_
  refine ev_rs [.tup 2 (two nilS (i64 e))] rfl ⟨.inl h, trivial⟩ ?_
  refine ev_seq (ev_rs [] rfl trivial (ev_ct (congrArg (fun z => AV.p (PV.val (.bool z))) hc) ?_))
  exact ev_rs [] rfl trivial (ev_ret (ret2 (fz_p (PLe.refl _)) (fz_p (PLe.refl _))))

set_option maxRecDepth 40000 in
theorem Roots_two (hm : MayM 2) (hb : isB 2 = true) (hf : FdP 2 (minv 2)) (a seeds : List Nat) (hl : a.length ≤ 500) (h0 : 0 < (normN 2 a).length) : CallSpec Tryz.pr.P Tryz.pr.G 13 [u64 2, u64s a, u64s seeds] (.tup 2 (two (u64s (rootsN 2 a)) (i64 0))) := by
  refine callSpec_of Tryz.pr Tryz.func13 rfl rfl rfl fun w0 ok0 hok hG => ?_
  refine ev_rs [] rfl trivial ?_
  refine ev_rs [.tup 2 (two (u64s (prodF 2 (rootsN 2 a))) (i64 0))] rfl ⟨.inl (Linear_ok hm hb hf a hl h0), trivial⟩ ?_
  refine ev_seq (ev_rs [] rfl trivial (ev_cf rfl (ev_sk ?_)))
  refine ev_rs [.tup 3 (three (polyF 2) (newF 2) (i64 0))] rfl ⟨.inl (RtFields_ok hm hb), trivial⟩ ?_
  refine ev_seq (ev_rs [] rfl (by repeat' (first | exact trivial | exact gd_t | exact gd_f | exact (fun _ => rfl) | intro _ | apply And.intro | assumption | exact rfl | exact gd_t (by assumption) | exact gd_f (by assumption) | exact gd_a (by assumption) (by assumption) | exact gd_b (by assumption) (by assumption))) (ev_ct rfl ?_))
  exact ev_rs [u64s (rootsN 2 a)] rfl ⟨.inl (small_spec hm a (by omega)), trivial⟩ (ev_ret (ret2 (fz_p (PLe.refl _)) (fz_p (PLe.refl _))))

set_option maxRecDepth 40000 in
set_option maxHeartbeats 4000000 in
theorem Roots_any {p : Nat} (hm : MayM p) (hb : isB p = true) (hf : FdP p (minv p)) (h2 : p ≠ 2) (a seeds : List Nat) (hl : a.length ≤ 500) (h0 : 0 < (normN p a).length) (hsl : seeds.length < 100000)
    (hsort : ∀ xs : List Nat, xs.Perm (rootsN p a) → CallSpecX Tryz.pr.P Tryz.pr.G 31 [.own 20 0 xs.length 1] [(20, ob64 xs)] [(20, ob64 (sortN xs))] (.p (.val (.tuple #[])))) (res : PV)
    (hr1 : (∀ T ∈ partsP p (rootsN p a) seeds seeds.length, T.length ≤ 1) → res = .tup 2 (two (u64s (rootsN p a)) (i64 0)))
    (hr2 : (∃ T ∈ partsP p (rootsN p a) seeds seeds.length, 1 < T.length) → res = .tup 2 (two nilS (i64 12))) :
    CallSpec Tryz.pr.P Tryz.pr.G 13 [u64 p, u64s a, u64s seeds] res := by
  have hp := hf.pos
  have hp1 := hf.prime.1
  have hbl : ∀ Q : List Nat, (prodF p Q).length = Q.length + 1 := fun Q => (prodF_len hp1 Q).1
  have hbn : ∀ Q : List Nat, normN p (prodF p Q) = prodF p Q := fun Q => (Nz.prodF hp1 Q).norm_id hp
  have hln := length_normN p a
  have hLin := Linear_ok hm hb hf a hl h0
  obtain ⟨R, hR⟩ : ∃ R, rootsN p a = R := ⟨_, rfl⟩
  have hRl : R.length < 500 := by
    rw [← hR, ← rootsN_norm hp]
    have := rootsN_len hf (Nz.norm hp a) h0
    omega
  have hRd : Dist p R := by rw [← hR]; exact rootsN_dist p a
  have hRlt : ∀ x ∈ R, x < p := fun x hx => by rw [← hR] at hx; exact (mem_rootsN.mp hx).1
  have hRs : ∀ l : List Nat, l.Perm R → sortN l = R := fun l h => by rw [← hR] at h ⊢; exact rootsN_sort h
  rw [hR] at hLin hsort hr1 hr2
  obtain ⟨Q, hQ⟩ : ∃ Q : Nat → List (List Nat), Q = fun i => (partsP p R seeds i).map (prodF p) := ⟨_, rfl⟩
  have hQl : ∀ i, (Q i).length = (partsP p R seeds i).length := fun i => by rw [hQ]; exact List.length_map _
  have hQb : ∀ i, (Q i).length ≤ 500 := fun i => by rw [hQl]; have := parts_bound (p := p) (R := R) (seeds := seeds) i; omega
  have hQ0 : Q 0 = [prodF p R] := by rw [hQ]; rfl
  have hQg : ∀ i k, k < (Q i).length → (Q i).getD k [] = prodF p ((partsP p R seeds i).getD k []) := fun i k hk => by
    rw [hQl] at hk
    rw [hQ]
    exact getD_mapP _ _ hk
  have hPl : ∀ i k, k < (Q i).length → ((partsP p R seeds i).getD k []).length < 500 := fun i k hk => by
    rw [hQl] at hk
    have := (parts_sub (getD_mem hk)).length_le
    omega
  have hc2 : ((p : Int) == 2) = false := eq2_f h2
  refine callSpec_of Tryz.pr Tryz.func13 rfl rfl rfl fun w0 ok0 hok hG => ?_
  refine ev_rs [] rfl trivial ?_
  refine ev_rs [.tup 2 (two (u64s (prodF p R)) (i64 0))] rfl ⟨.inl hLin, trivial⟩ ?_
  refine ev_seq (ev_rs [] rfl trivial (ev_cf rfl (ev_sk ?_)))
  refine ev_rs [.tup 3 (three (polyF p) (newF p) (i64 0))] rfl ⟨.inl (RtFields_ok hm hb), trivial⟩ ?_
  refine ev_seq (ev_rs [] rfl (by repeat' (first | exact trivial | exact gd_t | exact gd_f | exact (fun _ => rfl) | intro _ | apply And.intro | assumption | exact rfl | exact gd_t (by assumption) | exact gd_f (by assumption) | exact gd_a (by assumption) (by assumption) | exact gd_b (by assumption) (by assumption))) (ev_cf (congrArg (fun z => AV.p (PV.val (.bool z))) hc2) (ev_sk ?_)))
  refine ev_rs [] rfl (by repeat' (first | exact trivial | exact gd_t | exact gd_f | exact (fun _ => rfl) | intro _ | apply And.intro | assumption | exact rfl | exact gd_t (by assumption) | exact gd_f (by assumption) | exact gd_a (by assumption) (by assumption) | exact gd_b (by assumption) (by assumption))) (ev_obs 49 (obP [prodF p R]) rfl rfl (fun j hj => ?_) ?_)
  · match j, hj with
    | 0, _ => rfl
  refine ev_at (α := Unit) (fun _ => True) (fun _ => [(10, .p (polyF p)), (11, .p (newF p)), (12, .own 12 0 (Q seeds.length).length 1)]) (fun _ => [(12, obP (Q seeds.length))]) ?_ ?_
  · refine ev_rs [] rfl trivial ?_
    refine ev_block (ev_while (α := Nat) (fun i => i ≤ seeds.length) (fun i => [(10, .p (polyF p)), (11, .p (newF p)), (12, .own 12 0 (Q i).length 1), (50, .p (u64s seeds)), (51, .p (i64 seeds.length)), (52, .p (i64 i))]) (fun i => [(12, obP (Q i))]) (fun i => seeds.length - i) 0
      (Nat.zero_le _) (wk_P 49 (by rw [hQ0]; rfl) (fun hd => ⟨le_refl hd _, le_refl hd _, le_r1 rfl (by rw [hQ0]; rfl), le_refl hd _, le_refl hd _, le_refl hd _, trivial⟩)) ?_)
    rintro i hi0
    refine ev_rs [] rfl trivial ?_
    refine ev_seq (ev_cond rfl (fun h => ev_sk ?_) (fun h => ev_exit ?_))
    · have hi : i < seeds.length := Int.ofNat_lt.mp (of_decide_eq_true h)
      have i0 : (0 : Int) ≤ (i : Int) := by omega
      have i1 : (i : Int) < (seeds.length : Int) := by omega
      obtain ⟨Y, hY⟩ : ∃ Y : Nat → List (List Nat), Y = fun k => (nextP (hiB p (seeds.getD i 0)) (partsP p R seeds i) k).map (prodF p) := ⟨_, rfl⟩
      have hYl : ∀ k, k ≤ (Q i).length → (Y k).length ≤ 500 := fun k hk => by
        rw [hQl] at hk
        rw [hY]
        dsimp only
        rw [List.length_map]
        have := nextP_bound (p := p) (R := R) (seeds := seeds) hk
        omega
      have hY0 : Y 0 = [] := by rw [hY]; rfl
      have hYn : Y (Q i).length = Q (i + 1) := by rw [hQl, hY, hQ]; rfl
      have hYs : ∀ k, Y (k + 1) = Y k ++ (stepP (hiB p (seeds.getD i 0)) ((partsP p R seeds i).getD k [])).map (prodF p) := fun k => by
        rw [hY]
        exact List.map_append
      refine ev_seq (ev_block ?_)
      refine ev_rs [] rfl (by repeat' (first | exact trivial | exact gd_t | exact gd_f | exact hi | exact i0 | exact i1 | exact (fun _ => rfl) | intro _ | apply And.intro | assumption | exact rfl | exact gd_t (by assumption) | exact gd_f (by assumption) | exact gd_a (by assumption) (by assumption) | exact gd_b (by assumption) (by assumption))) ?_
      refine ev_rs [] rfl trivial (ev_nilob 15 15 (obP []) rfl rfl rfl ?_)
      refine ev_at (α := Unit) (fun _ => True) (fun _ => [(10, .p (polyF p)), (11, .p (newF p)), (12, .own 12 0 (Q i).length 1), (15, .own 15 0 (Q (i + 1)).length 1), (50, .p (u64s seeds)), (51, .p (i64 seeds.length)), (52, .p (i64 i))]) (fun _ => [(12, obP (Q i)), (15, obP (Q (i + 1)))]) ?_ ?_
      · refine ev_rs [] rfl trivial ?_
        refine ev_block (ev_while (α := Nat) (fun k => k ≤ (Q i).length) (fun k => [(10, .p (polyF p)), (11, .p (newF p)), (12, .own 12 0 (Q i).length 1), (14, .p (u64 (seeds.getD i 0))), (15, .own 15 0 (Y k).length 1), (50, .p (u64s seeds)), (51, .p (i64 seeds.length)), (52, .p (i64 i)), (56, .own 12 0 (Q i).length 1), (57, .p (i64 (Q i).length)), (58, .p (i64 k))]) (fun k => [(12, obP (Q i)), (15, obP (Y k))]) (fun k => (Q i).length - k) 0
          (Nat.zero_le _) (wk_P2 12 15 rfl rfl rfl (by rw [hY0]; rfl) (fun hd => ⟨le_refl hd _, le_refl hd _, le_r2a rfl rfl, le_refl hd _, le_r2b rfl rfl (by rw [hY0]; rfl), le_refl hd _, le_refl hd _, le_refl hd _, le_r2a rfl rfl, le_refl hd _, le_refl hd _, trivial⟩)) ?_)
        rintro k hk0
        have hQbi := hQb i
        refine ev_rs [] rfl trivial ?_
        refine ev_seq (ev_cond rfl (fun h => ev_sk ?_) (fun h => ev_exit ?_))
        · have hk : k < (Q i).length := Int.ofNat_lt.mp (of_decide_eq_true h)
          have k0 : (0 : Int) ≤ (k : Int) := by omega
          have k1 : (k : Int) < ((Q i).length : Int) := by omega
          have hPg := hQg i k hk
          have hPlen := hPl i k hk
          have hkP : k < (partsP p R seeds i).length := by rw [← hQl]; exact hk
          have hPd : Dist p ((partsP p R seeds i).getD k []) := parts_dist hRd (getD_mem hkP)
          have hYk := hYl k hk0
          have hYk1 := hYl (k + 1) hk
          have hst := hYs k
          obtain ⟨P, hP⟩ : ∃ P, (partsP p R seeds i).getD k [] = P := ⟨_, rfl⟩
          rw [hP] at hPg hPlen hPd hst
          obtain ⟨b, hbk⟩ : ∃ b, (Q i).getD k [] = b := ⟨_, rfl⟩
          have hbP : b = prodF p P := by rw [← hbk, hPg]
          have hDg := Deg_spec hm b (by rw [hbP, hbl]; omega)
          rw [hbP, hbn, hbl, ← hbP] at hDg
          have hkw : IntKind.wrap .i64 ((k : Int) + 1) = ((k + 1 : Nat) : Int) := wrapI _ (by omega) (by omega)
          refine ev_seq (ev_block ?_)
          refine ev_rs [] rfl (by repeat' (first | exact trivial | exact gd_t | exact gd_f | exact hk | exact k0 | exact k1 | exact (fun _ => rfl) | intro _ | apply And.intro | assumption | exact rfl | exact gd_t (by assumption) | exact gd_f (by assumption) | exact gd_a (by assumption) (by assumption) | exact gd_b (by assumption) (by assumption))) ?_
          refine ev_eq 17 (.p (u64s b)) (by rw [← hbk]; rfl) ?_
          refine ev_seq (ev_rs [i64 (((P.length + 1 : Nat) : Int) - 1)] rfl ⟨.inl hDg, trivial⟩ (ev_cond rfl (fun h => ?_) (fun h => ev_sk ?_)))
          · have hz : P.length ≤ 1 := by
              have := of_decide_eq_true h
              omega
            have hst : Y k ++ [b] = Y (k + 1) := by
              rw [hst]
              unfold stepP
              rw [if_pos hz, hbP]; rfl
            refine ev_rs [] rfl ⟨⟨by omega, rfl, Nat.le_refl 1⟩, trivial⟩ (ev_appP 15 69 (Y k) [b] rfl rfl rfl rfl rfl (fun j hj => rfl) (fun j hj => ?_) (ev_exit ?_))
            · match j, hj with
              | 0, _ => rfl
            exact ev_region [] rfl trivial ⟨k + 1, hk, by dsimp only; omega, wk_P2 12 69 rfl rfl rfl (congrArg (fun l => some (obP l)) hst) (fun hd => ⟨le_refl hd _, le_refl hd _, le_r2a rfl rfl, le_refl hd _, le_r2b rfl rfl (by rw [hst]), le_refl hd _, le_refl hd _, le_refl hd _, le_r2a rfl rfl, le_refl hd _, le_n hd (congrArg (fun z => PV.val (.int .i64 z)) hkw), trivial⟩)⟩
          · have hz : ¬ P.length ≤ 1 := by
              have := of_decide_eq_false h
              omega
            obtain ⟨Cs, hCs⟩ : ∃ Cs, (cutP (hiB p (seeds.getD i 0)) P).map (prodF p) = Cs := ⟨_, rfl⟩
            have hst : Y k ++ Cs = Y (k + 1) := by
              rw [hst]
              unfold stepP
              rw [if_neg hz, hCs]
            have hYl2 : (Y k).length + Cs.length ≤ 500 := by
              rw [← hst, List.length_append] at hYk1
              exact hYk1
            have hSp := split_ok hm hf P hPd (by omega) (seeds.getD i 0)
            rw [hCs, ← hbP] at hSp
            refine ev_rs [.tup 2 (two (plS Cs) (i64 0))] rfl ⟨.inl hSp, trivial⟩ ?_
            refine ev_seq (ev_rs [] rfl trivial (ev_cf rfl (ev_sk ?_)))
            refine ev_region [] rfl ⟨⟨by omega, rfl, trivial⟩, trivial⟩ (ev_appP 15 82 (Y k) Cs rfl rfl rfl rfl rfl (fun j hj => rfl) (fun j hj => rfl) ?_)
            exact ev_region [] rfl trivial ⟨k + 1, hk, by dsimp only; omega, wk_P2 12 82 rfl rfl rfl (congrArg (fun l => some (obP l)) hst) (fun hd => ⟨le_refl hd _, le_refl hd _, le_r2a rfl rfl, le_refl hd _, le_r2b rfl rfl (by rw [hst]), le_refl hd _, le_refl hd _, le_refl hd _, le_r2a rfl rfl, le_refl hd _, le_n hd (congrArg (fun z => PV.val (.int .i64 z)) hkw), trivial⟩)⟩
        · have hk : k = (Q i).length := by
            have := of_decide_eq_false h
            omega
          subst hk
          exact at_wk () trivial (wk_P2 12 15 rfl rfl rfl (congrArg (fun l => some (obP l)) hYn) (fun hd => ⟨le_refl hd _, le_refl hd _, le_r2a rfl rfl, le_r2b rfl rfl (by rw [hYn]), le_refl hd _, le_refl hd _, le_refl hd _, trivial⟩))
      rintro ⟨⟩ -
      refine ev_rs [] rfl ⟨Nat.le_of_eq (Nat.zero_add _), trivial⟩ ?_
      refine ev_region [] rfl trivial ?_
      exact ev_region [] rfl trivial ⟨i + 1, hi, by dsimp only; omega, wk_P 15 rfl (fun hd => ⟨le_refl hd _, le_refl hd _, le_r1 rfl rfl, le_refl hd _, le_refl hd _, le_n hd (congrArg (fun z => PV.val (.int .i64 z)) (wrapI _ (by omega) (by omega))), trivial⟩)⟩
    · have hi : i = seeds.length := by
        have := of_decide_eq_false h
        omega
      subst hi
      exact at_wk () trivial (wk_P 12 rfl (fun hd => ⟨le_refl hd _, le_refl hd _, le_r1 rfl rfl, trivial⟩))
  rintro ⟨⟩ -
  obtain ⟨n, hn⟩ : ∃ n, (Q seeds.length).length = n := ⟨_, rfl⟩
  obtain ⟨Ps, hPs⟩ : ∃ Ps, partsP p R seeds seeds.length = Ps := ⟨_, rfl⟩
  have hnP : n = Ps.length := by rw [← hn, hQl, hPs]
  have hQg' := hQg seeds.length
  have hPl' := hPl seeds.length
  have hQbn := hQb seeds.length
  have hflat := parts_flat p R seeds seeds.length
  have hPlt : ∀ T ∈ Ps, ∀ x ∈ T, x < p := fun T hT x hx => by
    rw [← hPs] at hT
    exact hRlt x ((parts_sub hT).subset hx)
  rw [hn] at hQg' hPl' hQbn ⊢
  rw [hPs] at hQg' hPl' hr1 hr2 hflat
  have hFl : ∀ k, k ≤ n → (flatK Ps k).length ≤ 500 := fun k hk => by
    have h1 := flatK_len Ps (k := k) (by omega)
    have h2 := hflat.length_eq
    omega
  have hFn : (flatK Ps n).Perm R := by
    rw [flatK_eq Ps n (by omega), hnP, List.take_length]
    exact hflat
  obtain ⟨Qs, hQs⟩ : ∃ Qs, Q seeds.length = Qs := ⟨_, rfl⟩
  rw [hQs] at hQg' hn ⊢
  subst hn
  refine ev_rs [] rfl trivial (ev_nilown 20 20 rfl rfl ?_)
  refine ev_at (α := Unit) (fun _ => ∀ T ∈ Ps, T.length ≤ 1) (fun _ => [(20, .own 20 0 (flatK Ps Qs.length).length 1)]) (fun _ => [(20, ob64 (flatK Ps Qs.length))]) ?_ ?_
  · refine ev_rs [] rfl trivial ?_
    refine ev_block (ev_while (α := Nat) (fun k => k ≤ Qs.length ∧ ∀ j, j < k → (Ps.getD j []).length ≤ 1) (fun k => [(10, .p (polyF p)), (11, .p (newF p)), (20, .own 20 0 (flatK Ps k).length 1), (87, .p (plS Qs)), (88, .p (i64 Qs.length)), (89, .p (i64 k))]) (fun k => [(20, ob64 (flatK Ps k))]) (fun k => Qs.length - k) 0
      ⟨Nat.zero_le _, fun j hj => absurd hj (Nat.not_lt_zero _)⟩ (wk_ob rfl (fun hd => ⟨le_refl hd _, le_refl hd _, le_o rfl, le_freeze hd (o := obP Qs) rfl (by show 0 + Qs.length * 1 ≤ Qs.length; omega) (fun k hk => ?_) (fun j hj => ?_), le_refl hd _, le_refl hd _, trivial⟩)) ?_)
    · have := hOf_mem k hk
      simp at this
      subst this
      exact (by decide : (20 : Nat) ≠ 12)
    · show Le _ _ _ _ (.p (u64s (Qs.getD (0 + j) []))) _
      rw [Nat.zero_add]
      exact le_refl hd _
    rintro k ⟨hk0, hle⟩
    refine ev_rs [] rfl trivial ?_
    refine ev_seq (ev_cond rfl (fun h => ev_sk ?_) (fun h => ev_exit ?_))
    · have hk : k < Qs.length := Int.ofNat_lt.mp (of_decide_eq_true h)
      have k0 : (0 : Int) ≤ (k : Int) := by omega
      have k1 : (k : Int) < (Qs.length : Int) := by omega
      have hPg := hQg' k hk
      have hPlen := hPl' k hk
      have hFk := hFl k hk0
      have hmem : Ps.getD k [] ∈ Ps := getD_mem (by omega)
      have hPx := hPlt _ hmem
      have hst : flatK Ps (k + 1) = flatK Ps k ++ Ps.getD k [] := rfl
      obtain ⟨P, hP⟩ : ∃ P, Ps.getD k [] = P := ⟨_, rfl⟩
      rw [hP] at hPg hPlen hmem hPx hst
      obtain ⟨b, hbk⟩ : ∃ b, Qs.getD k [] = b := ⟨_, rfl⟩
      have hbP : b = prodF p P := by rw [← hbk, hPg]
      have hDg := Deg_spec hm b (by rw [hbP, hbl]; omega)
      rw [hbP, hbn, hbl, ← hbP] at hDg
      have hkw : IntKind.wrap .i64 ((k : Int) + 1) = ((k + 1 : Nat) : Int) := wrapI _ (by omega) (by omega)
      have hdeg : ((((P.length + 1 : Nat) : Int) - 1)) = (P.length : Int) := by omega
      rw [hdeg] at hDg
      refine ev_seq (ev_block ?_)
      refine ev_rs [] rfl (by repeat' (first | exact trivial | exact gd_t | exact gd_f | exact hk | exact k0 | exact k1 | exact (fun _ => rfl) | intro _ | apply And.intro | assumption | exact rfl | exact gd_t (by assumption) | exact gd_f (by assumption) | exact gd_a (by assumption) (by assumption) | exact gd_b (by assumption) (by assumption))) ?_
      refine ev_eq 22 (.p (u64s b)) (by rw [← hbk]; rfl) ?_
      refine ev_rs [i64 P.length] rfl ⟨.inl hDg, trivial⟩ ?_
      refine ev_block (ev_rs [] rfl trivial (ev_cond rfl (fun h => ev_skip ?_) (fun h => ?_)))
      · have hz : P.length = 0 := Int.ofNat_inj.mp (beq_iff_eq.mp h)
        have hPn : P = [] := List.eq_nil_of_length_eq_zero hz
        have hst : flatK Ps k = flatK Ps (k + 1) := by rw [hst, hPn, List.append_nil]
        exact ev_region [] rfl trivial ⟨k + 1, ⟨hk, fun j hj => by
          by_cases e : j = k
          · rw [e, hP]; omega
          · exact hle j (by omega)⟩, by dsimp only; omega, wk_ren (i' := 20) (congrArg (fun l => some (ob64 l)) hst) (fun hd => ⟨le_refl hd _, le_refl hd _, le_ren rfl (by rw [hst]), le_refl hd _, le_refl hd _, le_n hd (congrArg (fun z => PV.val (.int .i64 z)) hkw), trivial⟩)⟩
      · have hz : ¬ P.length = 0 := fun e => beq_eq_false_iff_ne.mp h (by rw [e]; rfl)
        refine ev_rs [] rfl trivial (ev_cond rfl (fun h => ?_) (fun h => ?_))
        · have hz1 : P.length = 1 := Int.ofNat_inj.mp (beq_iff_eq.mp h)
          obtain ⟨x, rfl⟩ : ∃ x, P = [x] := by
            match P, hz1 with
            | [x], _ => exact ⟨x, rfl⟩
          have hx : x < p := hPx x List.mem_cons_self
          have hMo := Monic_spec hm b (by rw [hbP, hbl]; exact (by decide : (1 + 1 : Nat) < 100000))
          have hbm : monicF (minv p) p (normN p b) = [sb 0 x p, 1] := by rw [hbP, monic_prod hf, prodF_one hp1]; rfl
          rw [hbm] at hMo
          have hSb := Sb_spec hm (b := bk p) (t := tw p) 0 (sb 0 x p)
          rw [sb_sb hx] at hSb
          refine ev_region [u64s [sb 0 x p, 1], u64 x] rfl (by repeat' (first | exact trivial | exact gd_t | exact gd_f | exact .inl hMo | exact .inl hSb | exact (by omega) | exact Nat.le_refl 1 | exact (by decide : (0 : Nat) < 2) | exact (by decide : (0 : Int) < 2) | exact (fun _ => rfl) | intro _ | apply And.intro | assumption | exact rfl | exact gd_t (by assumption) | exact gd_f (by assumption) | exact gd_a (by assumption) (by assumption) | exact gd_b (by assumption) (by assumption))) (ev_app 20 109 (flatK Ps k) [x] rfl rfl rfl rfl rfl (fun j hj => rfl) (fun j hj => ?_) ?_)
          · match j, hj with
            | 0, _ => rfl
          exact ev_region [] rfl trivial ⟨k + 1, ⟨hk, fun j hj => by
            by_cases e : j = k
            · rw [e, hP]; exact Nat.le_refl 1
            · exact hle j (by omega)⟩, by dsimp only; omega, wk_ren (i' := 109) (congrArg (fun l => some (ob64 l)) hst.symm) (fun hd => ⟨le_refl hd _, le_refl hd _, le_ren rfl (by rw [hst]), le_refl hd _, le_refl hd _, le_n hd (congrArg (fun z => PV.val (.int .i64 z)) hkw), trivial⟩)⟩
        · have hz1 : ¬ P.length = 1 := fun e => beq_eq_false_iff_ne.mp h (by rw [e]; rfl)
          rw [hr2 ⟨P, hmem, by omega⟩]
          exact ev_rs [] rfl trivial (ev_ret (ret2 (fz_p (PLe.refl _)) (fz_p (PLe.refl _))))
    · have hk : k = Qs.length := by
        have := of_decide_eq_false h
        omega
      subst hk
      refine at_ob () (fun T hT => ?_) rfl (fun hd => ⟨le_o rfl, trivial⟩)
      obtain ⟨j, hj, rfl⟩ := mem_getD' hT
      exact hle j (by omega)
  rintro ⟨⟩ hall
  have hS := hsort _ hFn
  rw [hRs _ hFn] at hS
  rw [hr1 hall]
  refine ev_rg [.x ⟨[.own 20 0 (flatK Ps Qs.length).length 1], [(20, ob64 (flatK Ps Qs.length))], [(20, ob64 R)], .p (.val (.tuple #[]))⟩] rfl ⟨⟨rfl, ⟨rfl, trivial⟩, hS⟩, trivial⟩ ?_
  exact ev_rs [] rfl trivial (ev_ret (ret2 (fz_ob' rfl hFn.length_eq rfl) (fz_p (PLe.refl _))))

end Go.Proofs

/- roots, walked: how often a number is a root; the chapter's examples. -/
set_option linter.unusedVariables false
namespace Go.Proofs
open Go Vinc Vinc.Num

theorem minv_one {p : Nat} (hp : 2 ≤ p) : minv p 1 = 1 := minv_eq hp (by rw [Nat.mul_one]; exact Nat.mod_eq_of_lt hp)

set_option maxRecDepth 40000 in
theorem Times_all {p : Nat} (hm : MayM p) (hb : isB p = true) (a : List Nat) (x : Nat) (hl : a.length ≤ 500) (h0 : 0 < (normN p a).length) : CallSpec Tryz.pr.P Tryz.pr.G 6 [u64 p, u64s a, u64 x] (.tup 2 (two (i64 (timF (minv p) p x (normN p a).length (normN p a))) (i64 0))) := by
  have hp1 : 1 < p := hm.1
  have hp : 0 < p := by omega
  have h1 := minv_one hm.1
  have hln := length_normN p a
  have hD := Deg_spec hm a (by omega)
  obtain ⟨T, hT⟩ : ∃ T, timF (minv p) p x (normN p a).length (normN p a) = T := ⟨_, rfl⟩
  rw [hT]
  refine callSpec_of Tryz.pr Tryz.func6 rfl rfl rfl fun w0 ok0 hok hG => ?_
  refine ev_rs [] rfl trivial ?_
  refine ev_rs [.tup 3 (three (polyF p) (newF p) (i64 0))] rfl ⟨.inl (RtFields_ok hm hb), trivial⟩ ?_
  refine ev_seq (ev_block (ev_rs [] rfl trivial (ev_cf rfl ?_)))
  refine ev_rs [i64 (((normN p a).length : Int) - 1)] rfl ⟨.inl hD, trivial⟩ (ev_cond rfl (fun h => ?_) (fun h => ev_skip ?_))
  · exfalso
    have := of_decide_eq_true h
    omega
  refine ev_rs [] rfl trivial ?_
  refine ev_at (α := Unit) (fun _ => True) (fun _ => [(11, .p (i64 T))]) (fun _ => []) ?_ ?_
  · refine ev_block (ev_while0 (α := Nat × Nat × List Nat) (fun q => 0 < (normN p q.2.2).length ∧ (normN p q.2.2).length ≤ q.2.1 ∧ q.2.2.length ≤ 500 ∧ q.1 + timF (minv p) p x q.2.1 (normN p q.2.2) = T ∧ q.1 + q.2.1 ≤ 500)
      (fun q => [(1, .p (u64s q.2.2)), (2, .p (u64 x)), (8, .p (polyF p)), (9, .p (newF p)), (11, .p (i64 q.1))]) (fun q => q.2.1) (0, (normN p a).length, a)
      ⟨h0, Nat.le_refl _, hl, by rw [← hT]; exact Nat.zero_add _, by dsimp only; omega⟩ ⟨le_0, le_0, le_0, le_0, le_0, trivial⟩ ?_)
    rintro ⟨n, f, c⟩ ⟨g1, g2, g3, g4, g5⟩
    dsimp only at g1 g2 g3 g4 g5
    have hev : evalN p x (normN p c) = evalN p x c := evalN_eq hp (ev_norm x c)
    obtain ⟨f, rfl⟩ : ∃ g, f = g + 1 := ⟨f - 1, by omega⟩
    refine ev_seq (ev_rs [u64 (evalN p x c)] rfl ⟨.inl (Eval_spec hm c x (by omega)), trivial⟩ (ev_cond rfl (fun h => ev_sk ?_) (fun h => ev_exit ?_)))
    · have hz : evalN p x c = 0 := Int.ofNat_inj.mp (beq_iff_eq.mp h)
      have hLs := RtLess_spec hm x
      have hLl : normN p (lin p x) = lin p x := (Nz.lin hp1 x).norm_id hp
      have hDv := DivM_ok hm c (lin p x) (by omega) (show (2 : Nat) < 100000 by decide) (by rw [hLl]; exact (by decide : 0 < 2))
      rw [hLl] at hDv
      obtain ⟨q1, q2, q3⟩ := lin_pos (iv := minv p) hp1 h1 (Nz.norm hp c) g1 (hev.trans hz)
      have ht : timF (minv p) p x (f + 1) (normN p c) = timF (minv p) p x f (divN (minv p) p (normN p c) (lin p x)).1 + 1 := if_pos (hev.trans hz)
      obtain ⟨qq, hqq⟩ : ∃ qq, (divN (minv p) p (normN p c) (lin p x)).1 = qq := ⟨_, rfl⟩
      obtain ⟨rr, hrr⟩ : ∃ rr, (divN (minv p) p (normN p c) (lin p x)).2 = rr := ⟨_, rfl⟩
      rw [hqq] at hDv q1 q2 q3 ht
      rw [hrr] at hDv
      have hqn := q3.norm_id hp
      have hlc := length_normN p c
      refine ev_block (ev_seq (ev_rs [u64s (lin p x), .tup 3 (three (u64s qq) (u64s rr) (i64 0))] rfl (by repeat' (first | exact trivial | exact gd_t | exact gd_f | exact .inl hLs | exact .inl hDv | exact (fun _ => rfl) | intro _ | apply And.intro | assumption | exact rfl | exact gd_t (by assumption) | exact gd_f (by assumption) | exact gd_a (by assumption) (by assumption) | exact gd_b (by assumption) (by assumption))) (ev_rs [] rfl trivial (ev_cf rfl (ev_skip ?_)))))
      exact ev_region [] rfl trivial (round0 (n + 1, f, qq) ⟨by dsimp only; rw [hqn]; exact q1, by dsimp only; rw [hqn]; omega, by dsimp only; omega, by dsimp only; rw [hqn, ← g4, ht]; omega, by dsimp only; omega⟩ (Nat.lt_succ_self f) ⟨le_0, le_0, le_0, le_0, le_e (congrArg (fun z => PV.val (.int .i64 z)) (wrapI _ (by omega) (by omega))), trivial⟩)
    · have hz : ¬ evalN p x c = 0 := fun e => beq_eq_false_iff_ne.mp h (by rw [e]; rfl)
      have ht : timF (minv p) p x (f + 1) (normN p c) = 0 := if_neg (fun e => hz (hev.symm.trans e))
      rw [ht] at g4
      exact at0 () trivial ⟨le_e (congrArg (fun z : Nat => PV.val (.int .i64 (z : Int))) g4), trivial⟩
  rintro ⟨⟩ -
  exact ev_rs [] rfl trivial (ev_ret (ret2 (fz_p (PLe.refl _)) (fz_p (PLe.refl _))))

set_option maxRecDepth 40000 in
theorem Times_zero {p : Nat} (hm : MayM p) (hb : isB p = true) (a : List Nat) (x : Nat) (hl : a.length ≤ 500) (h0 : (normN p a).length = 0) : CallSpec Tryz.pr.P Tryz.pr.G 6 [u64 p, u64s a, u64 x] (.tup 2 (two (i64 0) (i64 1))) := by
  have hD := Deg_spec hm a (by omega)
  refine callSpec_of Tryz.pr Tryz.func6 rfl rfl rfl fun w0 ok0 hok hG => ?_
  refine ev_rs [] rfl trivial ?_
  refine ev_rs [.tup 3 (three (polyF p) (newF p) (i64 0))] rfl ⟨.inl (RtFields_ok hm hb), trivial⟩ ?_
  refine ev_seq (ev_block (ev_rs [] rfl trivial (ev_cf rfl ?_)))
  refine ev_rs [i64 (((normN p a).length : Int) - 1)] rfl ⟨.inl hD, trivial⟩ (ev_cond rfl (fun h => ?_) (fun h => ev_skip ?_))
  · exact ev_rs [] rfl trivial (ev_ret (ret2 (fz_p (PLe.refl _)) (fz_p (PLe.refl _))))
  · exfalso
    have := of_decide_eq_false h
    omega

set_option maxRecDepth 40000 in
theorem Times_no {p : Nat} (hp : p < 18446744073709551616) (h : ¬ (p < 9223372036854775808 ∧ isB p = true)) (a : List Nat) (x : Nat) : CallSpec Tryz.pr.P Tryz.pr.G 6 [u64 p, u64s a, u64 x] (.tup 2 (two (i64 0) (i64 14))) := by
  refine callSpec_of Tryz.pr Tryz.func6 rfl rfl rfl fun w0 ok0 hok hG => ?_
  refine ev_rs [] rfl trivial ?_
  refine ev_rs [.tup 3 (three nilP nilP (i64 14))] rfl ⟨.inl (RtFields_no hp h), trivial⟩ ?_
  refine ev_seq (ev_block (ev_rs [] rfl trivial (ev_ct rfl ?_)))
  exact ev_rs [] rfl trivial (ev_ret (ret2 (fz_p (PLe.refl _)) (fz_p (PLe.refl _))))

/-! ### the chapter's examples -/

theorem roots7 : rootsN 7 [6, 0, 1] = [1, 6] := by decide +kernel
theorem lin7 : prodF 7 [1, 6] = [6, 0, 1] := by decide +kernel
theorem hi7 : hiB 7 1 1 ≠ hiB 7 1 6 := by decide +kernel
theorem parts7 : ∀ T ∈ partsP 7 [1, 6] [1] 1, T.length ≤ 1 := by decide +kernel
theorem tim7 : timF iv7 7 0 3 [0, 0, 1] = 2 := by decide +kernel

theorem same_t (x : List Nat) (hx : x.length < 1000000) : CallSpec Tryz.pr.P Tryz.pr.G 9 [u64s x, u64s x] (Vinc.bool true) := by
  have := Same_spec x x hx hx
  rwa [decide_eq_true rfl] at this

set_option maxRecDepth 40000 in
theorem awake11_spec : CallSpec Tryz.pr.P Tryz.pr.G 5 [] (Vinc.bool true) := by
  have hf := asked_fd asked7
  have hL := Linear_ok may7 isB7 hf [6, 0, 1] (by decide) (by decide)
  have hR := Roots_any may7 isB7 hf (by decide) [6, 0, 1] [1] (by decide) (by decide) (by decide) (fun xs hxs => sort_spec xs (by rw [hxs.length_eq, roots7]; decide)) (.tup 2 (two (u64s [1, 6]) (i64 0)))
    (fun _ => by rw [roots7]) (fun ⟨T, hT, hl⟩ => by
      rw [roots7] at hT
      have := parts7 T hT
      omega)
  have hT := Times_all may7 isB7 [0, 0, 1] 0 (by decide) (by decide)
  rw [show timF (minv 7) 7 0 (normN 7 [0, 0, 1]).length (normN 7 [0, 0, 1]) = 2 by rw [minv7]; exact tim7] at hT
  rw [roots7, lin7] at hL
  have h1 := same_t [6, 0, 1] (by decide)
  have h2 := same_t [1, 6] (by decide)
  have three3 : ∀ {x y z : Nat} {g : Nat → PV}, g 0 = u64 x → g 1 = u64 y → g 2 = u64 z → PLe (.sl 3 1 g) (u64s [x, y, z]) := fun h0 h1 h2 => PLe.lit rfl fun j hj => by
    match j, hj with
    | 0, _ => exact h0
    | 1, _ => exact h1
    | 2, _ => exact h2
  refine callSpec_of Tryz.pr Tryz.func5 rfl rfl rfl fun w0 ok0 hok hG => ?_
  refine ev_rs [] rfl trivial ?_
  refine ev_at (α := Unit) (fun _ => True) (fun _ => [(1, .p (u64s [6, 0, 1]))]) (fun _ => []) ?_ ?_
  · refine ev_region [] rfl (by repeat' (first | exact trivial | exact gd_t | exact gd_f | exact (fun _ => rfl) | intro _ | apply And.intro | assumption | exact rfl | exact gd_t (by assumption) | exact gd_f (by assumption) | exact gd_a (by assumption) (by assumption) | exact gd_b (by assumption) (by assumption))) (at0 () trivial ⟨le_freeze ren_nil rfl (Nat.le_refl 3) (fun k hk => by cases hk) (fun j hj => ?_), trivial⟩)
    match j, hj with
    | 0, _ => exact le_refl ren_nil _
    | 1, _ => exact le_refl ren_nil _
    | 2, _ => exact le_refl ren_nil _
  rintro ⟨⟩ -
  refine ev_rs [.tup 2 (two (u64s [6, 0, 1]) (i64 0))] rfl (by repeat' (first | exact trivial | exact gd_t | exact gd_f | exact .inl hL | exact (fun _ => rfl) | intro _ | apply And.intro | assumption | exact rfl | exact gd_t (by assumption) | exact gd_f (by assumption) | exact gd_a (by assumption) (by assumption) | exact gd_b (by assumption) (by assumption))) ?_
  refine ev_rs [.tup 2 (two (u64s [1, 6]) (i64 0))] rfl (by repeat' (first | exact trivial | exact gd_t | exact gd_f | exact Nat.le_refl 1 | exact .inl (callSpec_args (as' := [u64 7, u64s [6, 0, 1], u64s [1]]) ⟨PLe.refl _, PLe.refl _, PLe.lit1 rfl, trivial⟩ hR) | exact (fun _ => rfl) | intro _ | apply And.intro | assumption | exact rfl | exact gd_t (by assumption) | exact gd_f (by assumption) | exact gd_a (by assumption) (by assumption) | exact gd_b (by assumption) (by assumption))) ?_
  refine ev_rs [.tup 2 (two (i64 2) (i64 0))] rfl (by repeat' (first | exact trivial | exact gd_t | exact gd_f | exact Nat.le_refl 3 | exact .inl (callSpec_args (as' := [u64 7, u64s [0, 0, 1], u64 0]) ⟨PLe.refl _, three3 rfl rfl rfl, PLe.refl _, trivial⟩ hT) | exact (fun _ => rfl) | intro _ | apply And.intro | assumption | exact rfl | exact gd_t (by assumption) | exact gd_f (by assumption) | exact gd_a (by assumption) (by assumption) | exact gd_b (by assumption) (by assumption))) ?_
  refine ev_rs [Vinc.bool true, Vinc.bool true] rfl (by repeat' (first | exact trivial | exact gd_t | exact gd_f | exact Nat.le_refl 2 | exact .inl h1 | exact .inl (callSpec_args (as' := [u64s [1, 6], u64s [1, 6]]) ⟨PLe.refl _, PLe.lit2 rfl rfl, trivial⟩ h2) | exact rfl | exact (fun _ => rfl) | intro _ | apply And.intro | assumption | exact rfl | exact gd_t (by assumption) | exact gd_f (by assumption) | exact gd_a (by assumption) (by assumption) | exact gd_b (by assumption) (by assumption))) (ev_ret (ret1 (fz_p (PLe.of_eq rfl))))

end Go.Proofs

/- The laws of roots: telling apart. -/
set_option linter.unusedVariables false
namespace Go.Proofs
open Go Vinc Vinc.Num

theorem unasked {p : Nat} (hA : ¬ Asked p) : (MayM p ∧ isB p = true ∧ 100000 < p ∧ p < 9223372036854775808) ∨ ¬ (p < 9223372036854775808 ∧ isB p = true) := by
  by_cases hB : p < 9223372036854775808 ∧ isB p = true
  · have hbig : 100000 < p := by
      rcases Nat.lt_or_ge 100000 p with h1 | h1
      · exact h1
      · have := isB_not hA h1
        rw [hB.2] at this; cases this
    exact .inl ⟨⟨by omega, hB.1⟩, hB.2, hbig, hB.1⟩
  · exact .inr hB

end Go.Proofs

/- The laws of roots: only roots; squares. -/
set_option linter.unusedVariables false
namespace Go.Proofs
open Go Vinc Vinc.Num

abbrev SortsR (R : List Nat) : Prop := ∀ xs : List Nat, xs.Perm R → CallSpecX Tryz.pr.P Tryz.pr.G 31 [.own 20 0 xs.length 1] [(20, ob64 xs)] [(20, ob64 (sortN xs))] (.p (.val (.tuple #[])))

theorem sorts_few {R : List Nat} (h : R.length ≤ 12) : SortsR R := fun xs hx => sort_spec xs (by rw [hx.length_eq]; exact h)

theorem roots_few {p : Nat} (hf : FdP p (minv p)) {a : List Nat} (h0 : 0 < (normN p a).length) : (rootsN p a).length < a.length := by
  have h1 := rootsN_len hf (Nz.norm hf.pos a) h0
  rw [rootsN_norm hf.pos] at h1
  have h2 := length_normN p a
  omega

theorem told_parts {p : Nat} (h2 : p ≠ 2) {R seeds : List Nat} (hd : Dist p R) : (∀ T ∈ partsP p R seeds seeds.length, T.length ≤ 1) ↔ AllP p R seeds :=
  (parts_all hd seeds.length).trans (allP_iff h2 (List.Perm.refl R) hd).symm

theorem Roots_told {p : Nat} (hA : Asked p) (a seeds : List Nat) (hl : a.length ≤ 500) (h0 : 0 < (normN p a).length) (hsl : seeds.length < 100000) (hs : SortsR (rootsN p a)) (hall : AllP p (rootsN p a) seeds) :
    CallSpec Tryz.pr.P Tryz.pr.G 13 [u64 p, u64s a, u64s seeds] (.tup 2 (two (u64s (rootsN p a)) (i64 0))) := by
  by_cases h2 : p = 2
  · subst h2
    exact Roots_two (asked_may hA) (isB_asked hA) (asked_fd hA) a seeds hl h0
  · have ht := (told_parts h2 (rootsN_dist p a)).mpr hall
    refine Roots_any (asked_may hA) (isB_asked hA) (asked_fd hA) h2 a seeds hl h0 hsl hs _ (fun _ => rfl) fun ⟨T, hT, hTl⟩ => ?_
    have := ht T hT
    omega

theorem Roots_untold {p : Nat} (hA : Asked p) (a seeds : List Nat) (hl : a.length ≤ 500) (h0 : 0 < (normN p a).length) (hsl : seeds.length < 100000) (hs : SortsR (rootsN p a)) (hall : ¬ AllP p (rootsN p a) seeds) :
    CallSpec Tryz.pr.P Tryz.pr.G 13 [u64 p, u64s a, u64s seeds] (.tup 2 (two nilS (i64 12))) := by
  have h2 : p ≠ 2 := fun e => hall fun i hi k hk => .inl e
  exact Roots_any (asked_may hA) (isB_asked hA) (asked_fd hA) h2 a seeds hl h0 hsl hs _ (fun h => absurd ((told_parts h2 (rootsN_dist p a)).mp h) hall) fun _ => rfl

theorem Roots_zero {p : Nat} (hA : Asked p) (a seeds : List Nat) (hl : a.length ≤ 500) (h0 : (normN p a).length = 0) : CallSpec Tryz.pr.P Tryz.pr.G 13 [u64 p, u64s a, u64s seeds] (.tup 2 (two nilS (i64 1))) :=
  Roots_bad (e := 1) (by decide) (Linear_zero (asked_may hA) (isB_asked hA) a hl h0)

theorem all_f : ∀ a b c d : Bool, a = false → b = false → (c = false ∨ d = false) → (bif (bif a then true else b) then true else (bif c then d else false)) = false := by decide
theorem or3_t : ∀ a b : Bool, (bif (bif a then true else b) then true else !false) = true := by decide
theorem or3_f : ∀ a b c : Bool, (bif (bif a then true else b) then true else c) = false → a = false ∧ b = false ∧ c = false := by decide

end Go.Proofs

/- Products of polynomials, walked: the ways 0 (short), 1, 2; other ways; no field. -/
set_option linter.unusedVariables false
namespace Go.Proofs
open Go Vinc Vinc.Num

theorem bif_ff {b c : Bool} (h : b = false) : (bif b then c else false) = false := by rw [h]; rfl
theorem bif_tt {b c : Bool} (h : b = true) : (bif b then true else c) = true := by rw [h]; rfl

theorem UMul_nil {a b : PV} {k : Int} : CallSpec Tryz.pr.P Tryz.pr.G 21 [nilP, a, b, i64 k] (.tup 2 (two nilS (i64 2))) := by
  refine callSpec_of Tryz.pr Tryz.func21 rfl rfl rfl fun w0 ok0 hok hG => ?_
  refine ev_rs [] rfl trivial ?_
  refine ev_seq (ev_rs [] rfl trivial (ev_ct rfl ?_))
  exact ev_rs [] rfl trivial (ev_ret (ret2 (fz_p (PLe.refl _)) (fz_p (PLe.refl _))))

theorem Mul_way0 {p : Nat} (hm : MayM p) (a b : List Nat) (hl : a.length < 200) (hl2 : b.length < 200) : CallSpec Tryz.pr.P Tryz.pr.G 21 [polyF p, u64s a, u64s b, i64 0] (.tup 2 (two (u64s (timesN p (normN p a) (normN p b))) (i64 0))) := by
  have la := length_normN p a
  have lb := length_normN p b
  have hNa := Norm_spec hm a (by omega)
  have hNb := Norm_spec hm b (by omega)
  generalize normN p a = na at *
  generalize normN p b = nb at *
  refine callSpec_of Tryz.pr Tryz.func21 rfl rfl rfl fun w0 ok0 hok hG => ?_
  refine ev_rs [] rfl trivial ?_
  refine ev_seq (ev_rs [] rfl trivial (ev_cf rfl (ev_sk ?_)))
  refine ev_rs [u64s na, u64s nb] rfl ⟨.inl hNb, .inl hNa, trivial⟩ ?_
  refine ev_seq (ev_rs [] rfl trivial (ev_block (ev_seq (ev_block (ev_seq (ev_block (ev_seq (ev_block (ev_seq (ev_block (ev_seq (ev_seq (ev_rs [] rfl trivial (ev_ct rfl (ev_exit ?_)))))))))))))))
  have hc : decide (IntKind.wrap .i64 ((na.length : Int) + (nb.length : Int)) ≥ 400) = false := decide_eq_false (by rw [wrapI _ (by omega) (by omega)]; omega)
  refine ev_rs [] rfl (by repeat' (first | exact trivial | exact gd_t | exact gd_f | exact (fun _ => rfl) | intro _ | apply And.intro | assumption | exact rfl | exact gd_t (by assumption) | exact gd_f (by assumption) | exact gd_a (by assumption) (by assumption) | exact gd_b (by assumption) (by assumption))) (ev_cf (congrArg (fun z => AV.p (PV.val (.bool z))) (bif_ff hc)) (ev_skip ?_))
  have := length_oneN p na nb
  refine ev_seq (ev_rs [u64s (oneN p na nb), u64s (timesN p na nb)] rfl ⟨.inl (trim_spec _ (by omega)), .inl (half_spec' hm na nb (by omega) (by omega)), trivial⟩ (ev_ret (ret2 (fz_p (PLe.refl _)) (fz_p (PLe.refl _)))))

theorem Mul_way2 {p : Nat} (hm : MayM p) (a b : List Nat) (hl : a.length < 50000) (hl2 : b.length < 50000) : CallSpec Tryz.pr.P Tryz.pr.G 21 [polyF p, u64s a, u64s b, i64 2] (.tup 2 (two (u64s (timesN p (normN p a) (normN p b))) (i64 0))) := by
  have la := length_normN p a
  have lb := length_normN p b
  have hNa := Norm_spec hm a (by omega)
  have hNb := Norm_spec hm b (by omega)
  generalize normN p a = na at *
  generalize normN p b = nb at *
  refine callSpec_of Tryz.pr Tryz.func21 rfl rfl rfl fun w0 ok0 hok hG => ?_
  refine ev_rs [] rfl trivial ?_
  refine ev_seq (ev_rs [] rfl trivial (ev_cf rfl (ev_sk ?_)))
  refine ev_rs [u64s na, u64s nb] rfl ⟨.inl hNb, .inl hNa, trivial⟩ ?_
  refine ev_seq (ev_rs [] rfl trivial (ev_block (ev_seq (ev_block (ev_seq (ev_block (ev_seq (ev_block (ev_seq (ev_block (ev_seq (ev_seq (ev_rs [] rfl trivial (ev_cf rfl (ev_sk ?_)))))))))))))))
  refine ev_seq (ev_rs [] rfl trivial (ev_ct rfl (ev_exit ?_)))
  have := length_oneN p na nb
  refine ev_seq (ev_rs [u64s (oneN p na nb), u64s (timesN p na nb)] rfl ⟨.inl (trim_spec _ (by omega)), .inl (half_spec' hm na nb (by omega) (by omega)), trivial⟩ (ev_ret (ret2 (fz_p (PLe.refl _)) (fz_p (PLe.refl _)))))

theorem Mul_way1 {p : Nat} (hm : MayM p) (a b : List Nat) (hl : a.length < 50000) (hl2 : b.length < 50000) : CallSpec Tryz.pr.P Tryz.pr.G 21 [polyF p, u64s a, u64s b, i64 1] (.tup 2 (two (u64s (timesN p (normN p a) (normN p b))) (i64 0))) := by
  have la := length_normN p a
  have lb := length_normN p b
  have hNa := Norm_spec hm a (by omega)
  have hNb := Norm_spec hm b (by omega)
  generalize normN p a = na at *
  generalize normN p b = nb at *
  refine callSpec_of Tryz.pr Tryz.func21 rfl rfl rfl fun w0 ok0 hok hG => ?_
  refine ev_rs [] rfl trivial ?_
  refine ev_seq (ev_rs [] rfl trivial (ev_cf rfl (ev_sk ?_)))
  refine ev_rs [u64s na, u64s nb] rfl ⟨.inl hNb, .inl hNa, trivial⟩ ?_
  refine ev_seq (ev_rs [] rfl trivial (ev_block (ev_seq (ev_block (ev_seq (ev_block (ev_seq (ev_block (ev_seq (ev_block (ev_seq (ev_seq (ev_rs [] rfl trivial (ev_cf rfl (ev_sk ?_)))))))))))))))
  refine ev_seq (ev_rs [] rfl trivial (ev_cf rfl (ev_sk ?_)))
  refine ev_seq (ev_rs [] rfl trivial (ev_ct rfl (ev_exit ?_)))
  have := length_oneN p na nb
  refine ev_seq (ev_rs [u64s (oneN p na nb), u64s (timesN p na nb)] rfl ⟨.inl (trim_spec _ (by omega)), .inl (one_spec hm na nb (by omega) (by omega)), trivial⟩ (ev_ret (ret2 (fz_p (PLe.refl _)) (fz_p (PLe.refl _)))))

end Go.Proofs

/- The laws of roots, the other seat: products of x less each number; how often a number is a root. -/
set_option linter.unusedVariables false
namespace Go.Proofs
open Go Vinc Vinc.Num

set_option maxRecDepth 40000 in
theorem From_ok {p : Nat} (hm : MayM p) (hb : isB p = true) (l : List Nat) (hl : l.length ≤ 2000) : CallSpec Tryz.pr.P Tryz.pr.G 7 [u64 p, u64s l] (.tup 2 (two (u64s (prodF p l)) (i64 0))) := by
  have hp1 : 1 < p := hm.1
  have hp : 0 < p := by omega
  rw [show prodF p l = prodT p l l.length from by rw [prodT_eq (by omega) l _ (Nat.le_refl _), List.take_length]]
  refine callSpec_of Tryz.pr Tryz.func7 rfl rfl rfl fun w0 ok0 hok hG => ?_
  refine ev_rs [] rfl trivial ?_
  refine ev_rs [.tup 3 (three (polyF p) (newF p) (i64 0))] rfl ⟨.inl (RtFields_ok hm hb), trivial⟩ ?_
  refine ev_seq (ev_block (ev_rs [] rfl trivial (ev_cf rfl ?_)))
  have hc : decide ((l.length : Int) > 2000) = false := decide_eq_false (by omega)
  refine ev_rs [] rfl trivial (ev_cf (congrArg (fun z => AV.p (PV.val (.bool z))) hc) (ev_skip ?_))
  refine ev_rs [] rfl (by repeat' (first | exact trivial | exact gd_t | exact gd_f | exact (fun _ => rfl) | intro _ | apply And.intro | assumption | exact rfl | exact gd_t (by assumption) | exact gd_f (by assumption) | exact gd_a (by assumption) (by assumption) | exact gd_b (by assumption) (by assumption))) ?_
  refine ev_at (α := Unit) (fun _ => True) (fun _ => [(9, .p (u64s (prodT p l l.length)))]) (fun _ => []) ?_ ?_
  · refine ev_rs [] rfl trivial ?_
    refine ev_block (ev_while0 (α := Nat) (fun i => i ≤ l.length) (fun i => [(6, .p (polyF p)), (7, .p (newF p)), (9, .p (u64s (prodT p l i))), (27, .p (u64s l)), (28, .p (i64 l.length)), (29, .p (i64 i))]) (fun i => l.length - i) 0
      (Nat.zero_le _) ⟨le_0, le_0, le_freeze ren_nil rfl (Nat.le_refl 1) (fun k hk => by cases hk) (fun j hj => by
        match j, hj with
        | 0, _ => exact le_refl ren_nil _), le_0, le_0, le_0, trivial⟩ ?_)
    rintro i h2
    refine ev_rs [] rfl trivial ?_
    refine ev_seq (ev_cond rfl (fun h => ev_sk ?_) (fun h => ev_exit ?_))
    · have hi : i < l.length := Int.ofNat_lt.mp (of_decide_eq_true h)
      have i0 : (0 : Int) ≤ (i : Int) := by omega
      have i1 : (i : Int) < (l.length : Int) := by omega
      have hLs := RtLess_spec hm (l.getD i 0)
      have hN1 : normN p (prodT p l i) = prodT p l i := by rw [prodT_eq hp1 l i h2]; exact (Nz.prodF hp1 _).norm_id hp
      have hN2 : normN p (lin p (l.getD i 0)) = lin p (l.getD i 0) := (Nz.lin hp1 _).norm_id hp
      have hM := Mul_way1 hm (prodT p l i) (lin p (l.getD i 0)) (by rw [prodT_len hp1 l i h2]; omega) (show (2 : Nat) < 50000 by decide)
      rw [hN1, hN2, show timesN p (prodT p l i) (lin p (l.getD i 0)) = prodT p l (i + 1) from rfl] at hM
      refine ev_seq (ev_block ?_)
      refine ev_rs [] rfl (by repeat' (first | exact trivial | exact gd_t | exact gd_f | exact hi | exact i0 | exact i1 | exact (fun _ => rfl) | intro _ | apply And.intro | assumption | exact rfl | exact gd_t (by assumption) | exact gd_f (by assumption) | exact gd_a (by assumption) (by assumption) | exact gd_b (by assumption) (by assumption))) ?_
      refine ev_rs [u64s (lin p (l.getD i 0)), .tup 2 (two (u64s (prodT p l (i + 1))) (i64 0))] rfl (by repeat' (first | exact trivial | exact gd_t | exact gd_f | exact .inl hLs | exact .inl hM | exact (fun _ => rfl) | intro _ | apply And.intro | assumption | exact rfl | exact gd_t (by assumption) | exact gd_f (by assumption) | exact gd_a (by assumption) (by assumption) | exact gd_b (by assumption) (by assumption))) ?_
      refine ev_rs [] rfl trivial (ev_cf rfl (ev_skip ?_))
      exact ev_region [] rfl trivial (round0 (i + 1) hi (by omega) ⟨le_0, le_0, le_0, le_0, le_0, le_e (congrArg (fun z => PV.val (.int .i64 z)) (wrapI _ (by omega) (by omega))), trivial⟩)
    · have hi : i = l.length := by
        have := of_decide_eq_false h
        omega
      subst hi
      exact at0 () trivial ⟨le_0, trivial⟩
  rintro ⟨⟩ -
  exact ev_rs [] rfl trivial (ev_ret (ret2 (fz_p (PLe.refl _)) (fz_p (PLe.refl _))))

theorem From_no {p : Nat} (hp : p < 18446744073709551616) (h : ¬ (p < 9223372036854775808 ∧ isB p = true)) (l : List Nat) : CallSpec Tryz.pr.P Tryz.pr.G 7 [u64 p, u64s l] (.tup 2 (two nilS (i64 14))) := by
  refine callSpec_of Tryz.pr Tryz.func7 rfl rfl rfl fun w0 ok0 hok hG => ?_
  refine ev_rs [] rfl trivial ?_
  refine ev_rs [.tup 3 (three nilP nilP (i64 14))] rfl ⟨.inl (RtFields_no hp h), trivial⟩ ?_
  refine ev_seq (ev_block (ev_rs [] rfl trivial (ev_ct rfl ?_)))
  exact ev_rs [] rfl trivial (ev_ret (ret2 (fz_p (PLe.refl _)) (fz_p (PLe.refl _))))

set_option maxRecDepth 40000 in
theorem RTimes_spec {p : Nat} (hm : MayM p) (hf : FdP p (minv p)) (a : List Nat) (x : Nat) (hx : x < 18446744073709551616) (hl : a.length ≤ 500) (ha : Nz p a) (h0 : 0 < a.length) : CallSpec Tryz.pr.P Tryz.pr.G 12 [u64s a, u64 x, u64 p] (i64 (timF (minv p) p x a.length a)) := by
  have hp1 : 1 < p := hm.1
  have hp : 0 < p := by omega
  have h1 := minv_one hm.1
  obtain ⟨T, hT⟩ : ∃ T, timF (minv p) p x a.length a = T := ⟨_, rfl⟩
  rw [hT]
  refine callSpec_of Tryz.pr Tryz.func12 rfl rfl rfl fun w0 ok0 hok hG => ?_
  refine ev_rs [] rfl trivial ?_
  refine ev_rs [] rfl trivial ?_
  refine ev_at (α := Unit) (fun _ => True) (fun _ => [(7, .p (i64 T))]) (fun _ => []) ?_ ?_
  · refine ev_block (ev_while0 (α := Nat × Nat × List Nat) (fun q => Nz p q.2.2 ∧ 0 < q.2.2.length ∧ q.2.2.length ≤ q.2.1 ∧ q.2.2.length ≤ 500 ∧ q.1 + timF (minv p) p x q.2.1 q.2.2 = T ∧ q.1 + q.2.1 ≤ 500)
      (fun q => [(0, .p (u64s q.2.2)), (1, .p (u64 x)), (2, .p (u64 p)), (7, .p (i64 q.1))]) (fun q => q.2.1) (0, a.length, a)
      ⟨ha, h0, Nat.le_refl _, hl, by rw [← hT]; exact Nat.zero_add _, by dsimp only; omega⟩ ⟨le_0, le_0, le_0, le_0, trivial⟩ ?_)
    rintro ⟨n, f, c⟩ ⟨g0, g1, g2, g3, g4, g5⟩
    dsimp only at g0 g1 g2 g3 g4 g5
    obtain ⟨f, rfl⟩ : ∃ g, f = g + 1 := ⟨f - 1, by omega⟩
    refine ev_seq (ev_rs [u64 (evalN p x c)] rfl ⟨.inl (Value_spec hm c x (by omega) hx), trivial⟩ (ev_cond rfl (fun h => ev_sk ?_) (fun h => ev_exit ?_)))
    · have hz : evalN p x c = 0 := Int.ofNat_inj.mp (beq_iff_eq.mp h)
      have hS := RefSub_spec hm 0 x
      have hLl : normN p (lin p x) = lin p x := (Nz.lin hp1 x).norm_id hp
      have hDv := RDiv_spec hm hf.prime c (lin p x) (by omega) (show (2 : Nat) < 10000 by decide) (by rw [hLl]; exact (by decide : 0 < 2))
      rw [hf.rdiv' g0 (Nz.lin hp1 x) (show 0 < 2 by decide)] at hDv
      obtain ⟨q1, q2, q3⟩ := lin_pos (iv := minv p) hp1 h1 g0 g1 hz
      have ht : timF (minv p) p x (f + 1) c = timF (minv p) p x f (divN (minv p) p c (lin p x)).1 + 1 := if_pos hz
      obtain ⟨qq, hqq⟩ : ∃ qq, (divN (minv p) p c (lin p x)).1 = qq := ⟨_, rfl⟩
      obtain ⟨rr, hrr⟩ : ∃ rr, (divN (minv p) p c (lin p x)).2 = rr := ⟨_, rfl⟩
      rw [hqq] at hDv q1 q2 q3 ht
      rw [hrr] at hDv
      obtain ⟨z, hz'⟩ : ∃ z, subM 0 x p = z := ⟨_, rfl⟩
      have hlz : lin p x = [z, 1] := by rw [← hz']; rfl
      rw [hlz] at hDv
      rw [hz'] at hS
      refine ev_block (ev_seq (ev_region [u64 z, .tup 2 (two (u64s qq) (u64s rr))] rfl (by repeat' (first | exact trivial | exact gd_t | exact gd_f | exact .inl hS | exact Nat.le_refl 2 | exact .inl (callSpec_args (as' := [u64s c, u64s [z, 1], u64 p]) ⟨PLe.refl _, PLe.lit2 rfl rfl, PLe.refl _, trivial⟩ hDv) | exact (fun _ => rfl) | intro _ | apply And.intro | assumption | exact rfl | exact gd_t (by assumption) | exact gd_f (by assumption) | exact gd_a (by assumption) (by assumption) | exact gd_b (by assumption) (by assumption))) ?_))
      exact ev_region [] rfl trivial (round0 (n + 1, f, qq) ⟨q3, q1, by dsimp only; omega, by dsimp only; omega, by dsimp only; rw [← g4, ht]; omega, by dsimp only; omega⟩ (Nat.lt_succ_self f) ⟨le_0, le_0, le_0, le_e (congrArg (fun z => PV.val (.int .i64 z)) (wrapI _ (by omega) (by omega))), trivial⟩)
    · have hz : ¬ evalN p x c = 0 := fun e => beq_eq_false_iff_ne.mp h (by rw [e]; rfl)
      have ht : timF (minv p) p x (f + 1) c = 0 := if_neg hz
      rw [ht] at g4
      exact at0 () trivial ⟨le_e (congrArg (fun z : Nat => PV.val (.int .i64 (z : Int))) g4), trivial⟩
  rintro ⟨⟩ -
  exact ev_rs [] rfl trivial (ev_ret (ret1 (fz_p (PLe.refl _))))

theorem or2_f : ∀ a b : Bool, (bif a then true else b) = false → a = false ∧ b = false := by decide

set_option maxRecDepth 40000 in
theorem RootsTimes_spec (p : Nat) (a l : List Nat) (x : Nat) (hp : p < 18446744073709551616) (hx : x < 18446744073709551616) : CallSpec Tryz.pr.P Tryz.pr.G 3 [u64 p, .agg 2 (two (u64s a) (u64s l)), u64 x] (Vinc.bool true) := by
  refine callSpec_of Tryz.pr Tryz.func3 rfl rfl rfl fun w0 ok0 hok hG => ?_
  refine ev_rs [] rfl (by repeat' (first | exact trivial | exact gd_t | exact gd_f | exact (fun _ => rfl) | intro _ | apply And.intro | assumption | exact rfl | exact gd_t (by assumption) | exact gd_f (by assumption) | exact gd_a (by assumption) (by assumption) | exact gd_b (by assumption) (by assumption))) ?_
  refine ev_rs [] rfl (by repeat' (first | exact trivial | exact gd_t | exact gd_f | exact (by decide : (0 : Nat) < 2) | exact (by decide : (0 : Int) < 2) | exact (by decide : (0 : Int) ≤ 0) | exact (fun _ => rfl) | intro _ | apply And.intro | assumption | exact rfl | exact gd_t (by assumption) | exact gd_f (by assumption) | exact gd_a (by assumption) (by assumption) | exact gd_b (by assumption) (by assumption))) ?_
  refine ev_rs [] rfl (by repeat' (first | exact trivial | exact gd_t | exact gd_f | exact (by decide : (1 : Nat) < 2) | exact (by decide : (1 : Int) < 2) | exact (by decide : (0 : Int) ≤ 1) | exact (fun _ => rfl) | intro _ | apply And.intro | assumption | exact rfl | exact gd_t (by assumption) | exact gd_f (by assumption) | exact gd_a (by assumption) (by assumption) | exact gd_b (by assumption) (by assumption))) ?_
  refine ev_seq (ev_rs [] rfl (by repeat' (first | exact trivial | exact gd_t | exact gd_f | exact (fun _ => rfl) | intro _ | apply And.intro | assumption | exact rfl | exact gd_t (by assumption) | exact gd_f (by assumption) | exact gd_a (by assumption) (by assumption) | exact gd_b (by assumption) (by assumption))) (ev_cond rfl (fun h => ?_) (fun h => ev_sk ?_)))
  · exact ev_rs [Vinc.bool true] rfl ⟨.inl awake11_spec, trivial⟩ (ev_ret (ret1 (fz_p (PLe.refl _))))
  obtain ⟨g1, g2⟩ := or2_f _ _ h
  have hl : a.length ≤ 12 := by
    have := of_decide_eq_false g1
    have e : (a.length : Int) ≤ 12 := by omega
    omega
  have hl2 : l.length ≤ 20 := by
    have := of_decide_eq_false g2
    have e : (l.length : Int) ≤ 20 := by omega
    omega
  by_cases hA : Asked p
  · have hm := asked_may hA
    have hb := isB_asked hA
    have hf := asked_fd hA
    have hp0 := hf.pos
    have hp1 := hf.prime.1
    have hln := length_normN p a
    have hF := From_ok hm hb l (by omega)
    have hRF := RFrom_spec hm l (by omega)
    have hSm := same_t (prodF p l) (by rw [(prodF_len hp1 l).1]; omega)
    have hN := RNorm_spec hm a (by omega)
    obtain ⟨b, hbb⟩ : ∃ b, prodF p l = b := ⟨_, rfl⟩
    rw [hbb] at hF hRF hSm
    by_cases h0 : (normN p a).length = 0
    · have hT := Times_zero hm hb a x (by omega) h0
      have hc : (((normN p a).length : Int) == 0) = true := by rw [h0]; rfl
      refine ev_rs [.tup 2 (two (i64 0) (i64 1))] rfl ⟨.inl hT, trivial⟩ ?_
      refine ev_rs [.tup 2 (two (u64s b) (i64 0))] rfl ⟨.inl hF, trivial⟩ ?_
      refine ev_seq (ev_rs [Vinc.bool true] rfl ⟨.inl (LawPrime_t hA), trivial⟩ (ev_cf rfl (ev_sk ?_)))
      refine ev_seq (ev_rs [u64s b, Vinc.bool true] rfl (by repeat' (first | exact trivial | exact gd_t | exact gd_f | exact .inl hRF | exact .inl hSm | exact (fun _ => rfl) | intro _ | apply And.intro | assumption | exact rfl | exact gd_t (by assumption) | exact gd_f (by assumption) | exact gd_a (by assumption) (by assumption) | exact gd_b (by assumption) (by assumption))) (ev_cf rfl (ev_sk ?_)))
      refine ev_seq (ev_rs [u64s (normN p a)] rfl (by repeat' (first | exact trivial | exact gd_t | exact gd_f | exact .inl hN | exact (fun _ => rfl) | intro _ | apply And.intro | assumption | exact rfl | exact gd_t (by assumption) | exact gd_f (by assumption) | exact gd_a (by assumption) (by assumption) | exact gd_b (by assumption) (by assumption))) (ev_ct (congrArg (fun z => AV.p (PV.val (.bool z))) hc) ?_))
      exact ev_rs [Vinc.bool true] rfl (by repeat' (first | exact trivial | exact gd_t | exact gd_f | exact .inl awake11_spec | exact (fun _ => rfl) | intro _ | apply And.intro | assumption | exact rfl | exact gd_t (by assumption) | exact gd_f (by assumption) | exact gd_a (by assumption) (by assumption) | exact gd_b (by assumption) (by assumption))) (ev_ret (ret1 (fz_p (PLe.of_eq rfl))))
    · have h0 : 0 < (normN p a).length := by omega
      have hT := Times_all hm hb a x (by omega) h0
      have hRT := RTimes_spec hm hf (normN p a) x hx (by omega) (Nz.norm hp0 a) h0
      have hc : (((normN p a).length : Int) == 0) = false := beq_eq_false_iff_ne.mpr (by omega)
      obtain ⟨T, hTT⟩ : ∃ T, timF (minv p) p x (normN p a).length (normN p a) = T := ⟨_, rfl⟩
      rw [hTT] at hT hRT
      refine ev_rs [.tup 2 (two (i64 T) (i64 0))] rfl ⟨.inl hT, trivial⟩ ?_
      refine ev_rs [.tup 2 (two (u64s b) (i64 0))] rfl ⟨.inl hF, trivial⟩ ?_
      refine ev_seq (ev_rs [Vinc.bool true] rfl ⟨.inl (LawPrime_t hA), trivial⟩ (ev_cf rfl (ev_sk ?_)))
      refine ev_seq (ev_rs [u64s b, Vinc.bool true] rfl (by repeat' (first | exact trivial | exact gd_t | exact gd_f | exact .inl hRF | exact .inl hSm | exact (fun _ => rfl) | intro _ | apply And.intro | assumption | exact rfl | exact gd_t (by assumption) | exact gd_f (by assumption) | exact gd_a (by assumption) (by assumption) | exact gd_b (by assumption) (by assumption))) (ev_cf rfl (ev_sk ?_)))
      refine ev_seq (ev_rs [u64s (normN p a)] rfl (by repeat' (first | exact trivial | exact gd_t | exact gd_f | exact .inl hN | exact (fun _ => rfl) | intro _ | apply And.intro | assumption | exact rfl | exact gd_t (by assumption) | exact gd_f (by assumption) | exact gd_a (by assumption) (by assumption) | exact gd_b (by assumption) (by assumption))) (ev_cf (congrArg (fun z => AV.p (PV.val (.bool z))) hc) (ev_sk ?_)))
      refine ev_rs [u64s (normN p a), i64 T, Vinc.bool true] rfl (by repeat' (first | exact trivial | exact gd_t | exact gd_f | exact .inl hN | exact .inl hRT | exact .inl awake11_spec | exact (fun _ => rfl) | intro _ | apply And.intro | assumption | exact rfl | exact gd_t (by assumption) | exact gd_f (by assumption) | exact gd_a (by assumption) (by assumption) | exact gd_b (by assumption) (by assumption))) (ev_ret (ret1 (fz_p (PLe.of_eq (congrArg Vinc.bool ?_)))))
      show (bif (bif true then ((T : Int) == (T : Int)) else false) then true else false) = true
      rw [beq_self_eq_true]; rfl
  · obtain ⟨n, e, b, f, hT, hF, hO⟩ : ∃ (n e : Int) (b : List Nat) (f : Int), CallSpec Tryz.pr.P Tryz.pr.G 6 [u64 p, u64s a, u64 x] (.tup 2 (two (i64 n) (i64 e))) ∧ CallSpec Tryz.pr.P Tryz.pr.G 7 [u64 p, u64s l] (.tup 2 (two (u64s b) (i64 f))) ∧ ((100000 < p ∧ p < 9223372036854775808) ∨ (e = 14 ∧ f = 14 ∧ n = 0 ∧ b = [])) := by
      rcases unasked hA with ⟨hm, hb, h1, h2⟩ | hB
      · have hF := From_ok hm hb l (by omega)
        by_cases h0 : (normN p a).length = 0
        · exact ⟨_, _, _, _, Times_zero hm hb a x (by omega) h0, hF, .inl ⟨h1, h2⟩⟩
        · exact ⟨_, _, _, _, Times_all hm hb a x (by omega) (by omega), hF, .inl ⟨h1, h2⟩⟩
      · exact ⟨0, 14, [], 14, Times_no hp hB a x, callSpec_res (PLe.two2 PLe.nil (PLe.refl _)) (From_no hp hB l), .inr ⟨rfl, rfl, rfl, rfl⟩⟩
    refine ev_rs [.tup 2 (two (i64 n) (i64 e))] rfl ⟨.inl hT, trivial⟩ ?_
    refine ev_rs [.tup 2 (two (u64s b) (i64 f))] rfl ⟨.inl hF, trivial⟩ ?_
    refine ev_seq (ev_rs [Vinc.bool false] rfl ⟨.inl (LawPrime_f hA), trivial⟩ (ev_ct rfl ?_))
    refine ev_rs [Vinc.bool true] rfl (by repeat' (first | exact trivial | exact gd_t | exact gd_f | exact .inl awake11_spec | exact (fun _ => rfl) | intro _ | apply And.intro | assumption | exact rfl | exact gd_t (by assumption) | exact gd_f (by assumption) | exact gd_a (by assumption) (by assumption) | exact gd_b (by assumption) (by assumption))) (ev_ret (ret1 (fz_p (PLe.of_eq (congrArg Vinc.bool ?_)))))
    show (bif (bif (bif decide ((p : Int) > 100000) then decide ((p : Int) < 9223372036854775808) else false) then true else (bif (bif (bif (e == 14) then (f == 14) else false) then (n == 0) else false) then ((b.length : Int) == 0) else false)) then true else false) = true
    rcases hO with ⟨h1, h2⟩ | ⟨rfl, rfl, rfl, rfl⟩
    · rw [decide_eq_true (by omega), decide_eq_true (by omega)]; rfl
    · cases (bif decide ((p : Int) > 100000) then decide ((p : Int) < 9223372036854775808) else false) <;> rfl

end Go.Proofs

/- The laws of roots, the other seat: back from the roots. -/
set_option linter.unusedVariables false
namespace Go.Proofs
open Go Vinc Vinc.Num

theorem Times_prod {p : Nat} (hA : Asked p) (l : List Nat) (hl : l.length ≤ 100) {x : Nat} (hx : x < p) : CallSpec Tryz.pr.P Tryz.pr.G 6 [u64 p, u64s (prodF p l), u64 x] (.tup 2 (two (i64 (cntK p l x l.length)) (i64 0))) := by
  have hf := asked_fd hA
  have hp1 := hf.prime.1
  have hn : normN p (prodF p l) = prodF p l := (Nz.prodF hp1 l).norm_id hf.pos
  have hln := (prodF_len hp1 l).1
  have := Times_all (asked_may hA) (isB_asked hA) (prodF p l) x (by omega) (by rw [hn]; omega)
  rw [hn, tim_count hf hx l.length l _ rfl (by omega)] at this
  rw [cntK_eq p l x _ (Nat.le_refl _), List.take_length]
  exact this

set_option maxRecDepth 40000 in
set_option maxHeartbeats 4000000 in
theorem RootsBack_spec (p : Nat) (l seeds : List Nat) (hp : p < 18446744073709551616) : CallSpec Tryz.pr.P Tryz.pr.G 4 [u64 p, u64s l, u64s seeds] (Vinc.bool true) := by
  refine callSpec_of Tryz.pr Tryz.func4 rfl rfl rfl fun w0 ok0 hok hG => ?_
  refine ev_rs [] rfl trivial ?_
  by_cases hA : ¬ Asked p
  · refine ev_seq (ev_rs [Vinc.bool false] rfl (by repeat' (first | exact trivial | exact gd_t | exact gd_f | exact .inl (LawPrime_f hA) | exact (fun _ => rfl) | intro _ | apply And.intro | assumption | exact rfl | exact gd_t (by assumption) | exact gd_f (by assumption) | exact gd_a (by assumption) (by assumption) | exact gd_b (by assumption) (by assumption))) (ev_ct (congrArg (fun z => AV.p (PV.val (.bool z))) (or3_t _ _)) ?_))
    exact ev_rs [Vinc.bool true] rfl ⟨.inl awake11_spec, trivial⟩ (ev_ret (ret1 (fz_p (PLe.refl _))))
  have hA : Asked p := Classical.byContradiction hA
  have hm := asked_may hA
  have hb := isB_asked hA
  have hf := asked_fd hA
  have hp0 := hf.pos
  have hp1 := hf.prime.1
  have hp63 := hm.2
  refine ev_seq (ev_rs [Vinc.bool true] rfl (by repeat' (first | exact trivial | exact gd_t | exact gd_f | exact .inl (LawPrime_t hA) | exact (fun _ => rfl) | intro _ | apply And.intro | assumption | exact rfl | exact gd_t (by assumption) | exact gd_f (by assumption) | exact gd_a (by assumption) (by assumption) | exact gd_b (by assumption) (by assumption))) (ev_cond rfl (fun h => ?_) (fun h => ev_sk ?_)))
  · exact ev_rs [Vinc.bool true] rfl ⟨.inl awake11_spec, trivial⟩ (ev_ret (ret1 (fz_p (PLe.refl _))))
  obtain ⟨g1, g2, _⟩ := or3_f _ _ _ h
  have hl : l.length ≤ 10 := by have := of_decide_eq_false g1; omega
  have hl2 : seeds.length ≤ 30 := by have := of_decide_eq_false g2; omega
  have hF := From_ok hm hb l (by omega)
  have hT : ∀ x, x < p → CallSpec Tryz.pr.P Tryz.pr.G 6 [u64 p, u64s (prodF p l), u64 x] (.tup 2 (two (i64 (cntK p l x l.length)) (i64 0))) := fun x hx => Times_prod hA l (by omega) hx
  have hln := (prodF_len hp1 l).1
  have hnn : normN p (prodF p l) = prodF p l := (Nz.prodF hp1 l).norm_id hp0
  have h0 : 0 < (normN p (prodF p l)).length := by rw [hnn]; omega
  have hrl := roots_few hf h0
  have hmemR : ∀ z, z ∈ rootsN p (prodF p l) ↔ z < p ∧ ∃ c ∈ l, c % p = z := fun z => by
    rw [mem_rootsN]
    exact ⟨fun ⟨h1, h2⟩ => ⟨h1, (prod_root hf.prime h1 l).mp h2⟩, fun ⟨h1, h2⟩ => ⟨h1, (prod_root hf.prime h1 l).mpr h2⟩⟩
  have hRo : ∃ e m, CallSpec Tryz.pr.P Tryz.pr.G 13 [u64 p, u64s (prodF p l), u64s seeds] (.tup 2 (two (u64s m) (i64 e))) ∧ ((AllP p (rootsN p (prodF p l)) seeds ∧ e = 0 ∧ m = rootsN p (prodF p l)) ∨ (¬ AllP p (rootsN p (prodF p l)) seeds ∧ e = 12 ∧ m = [])) := by
    have hS := sorts_few (R := rootsN p (prodF p l)) (by omega)
    by_cases hall : AllP p (rootsN p (prodF p l)) seeds
    · exact ⟨_, _, Roots_told hA _ seeds (by omega) h0 (by omega) hS hall, .inl ⟨hall, rfl, rfl⟩⟩
    · exact ⟨12, [], callSpec_res (PLe.two2 PLe.nil (PLe.refl _)) (Roots_untold hA _ seeds (by omega) h0 (by omega) hS hall), .inr ⟨hall, rfl, rfl⟩⟩
  have hRlt := rootsN_lt p (prodF p l)
  obtain ⟨R, hR⟩ : ∃ R, rootsN p (prodF p l) = R := ⟨_, rfl⟩
  rw [hR] at hrl hmemR hRo hRlt
  obtain ⟨a, ha⟩ : ∃ a, prodF p l = a := ⟨_, rfl⟩
  rw [ha] at hF hT hRo hrl hln
  have hpz : ((p : Nat) : Int) ≠ 0 := by omega
  refine ev_rs [.tup 2 (two (u64s a) (i64 0))] rfl ⟨.inl hF, trivial⟩ ?_
  refine ev_seq (ev_rs [] rfl trivial (ev_cf rfl (ev_sk ?_)))
  refine ev_rs [] rfl trivial ?_
  refine ev_at (α := Unit) (fun _ => True) (fun _ => [(0, .p (u64 p)), (2, .p (u64s seeds)), (7, .p (u64s a)), (9, .p (u64s R))]) (fun _ => []) ?_ ?_
  · refine ev_rs [] rfl trivial ?_
    refine ev_block (ev_while0 (α := Nat × List Nat) (fun q => q.1 ≤ l.length ∧ q.2.Pairwise (· < ·) ∧ (∀ z, z ∈ q.2 ↔ ∃ j, j < q.1 ∧ l.getD j 0 % p = z) ∧ q.2.length ≤ q.1)
      (fun q => [(0, .p (u64 p)), (1, .p (u64s l)), (2, .p (u64s seeds)), (7, .p (u64s a)), (9, .p (u64s q.2)), (10, .p (i64 q.1))]) (fun q => l.length - q.1) (0, [])
      ⟨Nat.zero_le _, List.Pairwise.nil, fun z => ⟨fun h => absurd h List.not_mem_nil, fun ⟨j, h, _⟩ => absurd h (Nat.not_lt_zero _)⟩, Nat.le_refl _⟩ ⟨le_0, le_0, le_0, le_0, le_p ren_nil PLe.nil, le_0, trivial⟩ ?_)
    rintro ⟨i, o⟩ ⟨h1, h2, h3, h4⟩
    dsimp only at h1 h2 h3 h4
    refine ev_seq (ev_rs [] rfl trivial (ev_cond rfl (fun h => ev_sk ?_) (fun h => ev_exit ?_)))
    · have hi : i < l.length := Int.ofNat_lt.mp (of_decide_eq_true h)
      have i0 : (0 : Int) ≤ (i : Int) := by omega
      have i1 : (i : Int) < (l.length : Int) := by omega
      obtain ⟨x, hx⟩ : ∃ x, l.getD i 0 % p = x := ⟨_, rfl⟩
      have hxp : x < p := by rw [← hx]; exact Nat.mod_lt _ hp0
      refine ev_seq (ev_block ?_)
      refine ev_rs [] rfl (by repeat' (first | exact trivial | exact gd_t | exact gd_f | exact hi | exact i0 | exact i1 | exact hpz | exact (fun _ => rfl) | intro _ | apply And.intro | assumption | exact rfl | exact gd_t (by assumption) | exact gd_f (by assumption) | exact gd_a (by assumption) (by assumption) | exact gd_b (by assumption) (by assumption))) ?_
      refine ev_n 11 x rfl (show ((l.getD i 0 : Nat) : Int).tmod (p : Int) = (x : Int) from by rw [← hx]; rfl) ?_
      refine ev_rs [] rfl trivial ?_
      refine ev_rs [] rfl trivial ?_
      refine ev_rs [] rfl trivial ?_
      obtain ⟨c, hc⟩ : ∃ c, cntK p l x l.length = c := ⟨_, rfl⟩
      have hTx := hT x hxp
      rw [hc] at hTx
      refine ev_at (α := Unit) (fun _ => True) (fun _ => [(0, .p (u64 p)), (1, .p (u64s l)), (2, .p (u64s seeds)), (7, .p (u64s a)), (9, .p (u64s o)), (10, .p (i64 i)), (11, .p (u64 x)), (12, .p (i64 c)), (13, .p (i64 o.length)), (14, .p (Vinc.bool false))]) (fun _ => []) ?_ ?_
      · refine ev_rs [] rfl trivial ?_
        refine ev_block (ev_while0 (α := Nat) (fun k => k ≤ l.length) (fun k => [(0, .p (u64 p)), (1, .p (u64s l)), (2, .p (u64s seeds)), (7, .p (u64s a)), (9, .p (u64s o)), (10, .p (i64 i)), (11, .p (u64 x)), (12, .p (i64 (cntK p l x k))), (13, .p (i64 o.length)), (14, .p (Vinc.bool false)), (15, .p (i64 k))]) (fun k => l.length - k) 0
          (Nat.zero_le _) ⟨le_0, le_0, le_0, le_0, le_0, le_0, le_0, le_0, le_0, le_0, le_0, trivial⟩ ?_)
        rintro k hk0
        refine ev_seq (ev_rs [] rfl trivial (ev_cond rfl (fun h => ev_sk ?_) (fun h => ev_exit ?_)))
        · have hk : k < l.length := Int.ofNat_lt.mp (of_decide_eq_true h)
          have k0 : (0 : Int) ≤ (k : Int) := by omega
          have k1 : (k : Int) < (l.length : Int) := by omega
          have hcl := cntK_le p l x k
          refine ev_seq (ev_block (ev_rs [] rfl (by repeat' (first | exact trivial | exact gd_t | exact gd_f | exact hk | exact k0 | exact k1 | exact hpz | exact (fun _ => rfl) | intro _ | apply And.intro | assumption | exact rfl | exact gd_t (by assumption) | exact gd_f (by assumption) | exact gd_a (by assumption) (by assumption) | exact gd_b (by assumption) (by assumption))) (ev_cond rfl (fun h => ?_) (fun h => ev_skip ?_))))
          · have he : l.getD k 0 % p = x := Int.ofNat_inj.mp (beq_iff_eq.mp h)
            have hst : cntK p l x (k + 1) = cntK p l x k + 1 := if_pos he
            refine ev_region [] rfl trivial ?_
            exact ev_region [] rfl trivial (round0 (k + 1) hk (by omega) ⟨le_0, le_0, le_0, le_0, le_0, le_0, le_0, le_e (congrArg (fun z => PV.val (.int .i64 z)) ((wrapI _ (by omega) (by omega)).trans (by rw [hst]; omega))), le_0, le_0, le_e (congrArg (fun z => PV.val (.int .i64 z)) (wrapI _ (by omega) (by omega))), trivial⟩)
          · have he : ¬ l.getD k 0 % p = x := fun e => beq_eq_false_iff_ne.mp h (by rw [← e]; rfl)
            have hst : cntK p l x (k + 1) = cntK p l x k := if_neg he
            exact ev_region [] rfl trivial (round0 (k + 1) hk (by omega) ⟨le_0, le_0, le_0, le_0, le_0, le_0, le_0, le_e (congrArg (fun z : Nat => PV.val (.int .i64 (z : Int))) hst.symm), le_0, le_0, le_e (congrArg (fun z => PV.val (.int .i64 z)) (wrapI _ (by omega) (by omega))), trivial⟩)
        · have hk : k = l.length := by
            have := of_decide_eq_false h
            omega
          subst hk
          exact at0 () trivial ⟨le_0, le_0, le_0, le_0, le_0, le_0, le_0, le_e (congrArg (fun z : Nat => PV.val (.int .i64 (z : Int))) hc), le_0, le_0, trivial⟩
      rintro ⟨⟩ -
      obtain ⟨t, ht⟩ : ∃ t, atK o x o.length = t := ⟨_, rfl⟩
      obtain ⟨kn, hkn⟩ : ∃ kn, knK o x o.length = kn := ⟨_, rfl⟩
      have htl : t ≤ o.length := ht ▸ atK_le o x o.length (Nat.le_refl _)
      refine ev_at (α := Unit) (fun _ => True) (fun _ => [(0, .p (u64 p)), (1, .p (u64s l)), (2, .p (u64s seeds)), (7, .p (u64s a)), (9, .p (u64s o)), (10, .p (i64 i)), (11, .p (u64 x)), (12, .p (i64 c)), (13, .p (i64 t)), (14, .p (Vinc.bool kn))]) (fun _ => []) ?_ ?_
      · refine ev_rs [] rfl trivial ?_
        refine ev_block (ev_while0 (α := Nat) (fun k => k ≤ o.length) (fun k => [(0, .p (u64 p)), (1, .p (u64s l)), (2, .p (u64s seeds)), (7, .p (u64s a)), (9, .p (u64s o)), (10, .p (i64 i)), (11, .p (u64 x)), (12, .p (i64 c)), (13, .p (i64 (atK o x k))), (14, .p (Vinc.bool (knK o x k))), (16, .p (i64 k))]) (fun k => o.length - k) 0
          (Nat.zero_le _) ⟨le_0, le_0, le_0, le_0, le_0, le_0, le_0, le_0, le_0, le_0, le_0, trivial⟩ ?_)
        rintro k hk0
        refine ev_seq (ev_rs [] rfl trivial (ev_cond rfl (fun h => ev_sk ?_) (fun h => ev_exit ?_)))
        · have hk : k < o.length := Int.ofNat_lt.mp (of_decide_eq_true h)
          have k0 : (0 : Int) ≤ (k : Int) := by omega
          have k1 : (k : Int) < (o.length : Int) := by omega
          have hat := atK_le o x k hk0
          refine ev_seq (ev_block ?_)
          refine ev_rs [] rfl (by repeat' (first | exact trivial | exact gd_t | exact gd_f | exact hk | exact k0 | exact k1 | exact (fun _ => rfl) | intro _ | apply And.intro | assumption | exact rfl | exact gd_t (by assumption) | exact gd_f (by assumption) | exact gd_a (by assumption) (by assumption) | exact gd_b (by assumption) (by assumption))) ?_
          refine ev_eq 14 (.p (Vinc.bool (knK o x (k + 1)))) rfl ?_
          by_cases hc2 : o.getD k 0 > x ∧ atK o x k = o.length
          · have hst : atK o x (k + 1) = k := if_pos hc2
            have hcc : (bif decide (((o.getD k 0 : Nat) : Int) > (x : Int)) then (((atK o x k : Nat) : Int) == (o.length : Int)) else false) = true := by
              rw [decide_eq_true (by omega : ((o.getD k 0 : Nat) : Int) > (x : Int)), hc2.2, beq_self_eq_true]; rfl
            refine ev_rs [] rfl (by repeat' (first | exact trivial | exact gd_t | exact gd_f | exact hk | exact k0 | exact k1 | exact (fun _ => rfl) | intro _ | apply And.intro | assumption | exact rfl | exact gd_t (by assumption) | exact gd_f (by assumption) | exact gd_a (by assumption) (by assumption) | exact gd_b (by assumption) (by assumption))) (ev_ct (congrArg (fun z => AV.p (PV.val (.bool z))) hcc) ?_)
            refine ev_region [] rfl trivial ?_
            exact ev_region [] rfl trivial (round0 (k + 1) hk (by omega) ⟨le_0, le_0, le_0, le_0, le_0, le_0, le_0, le_0, le_e (congrArg (fun z : Nat => PV.val (.int .i64 (z : Int))) hst.symm), le_0, le_e (congrArg (fun z => PV.val (.int .i64 z)) (wrapI _ (by omega) (by omega))), trivial⟩)
          · have hst : atK o x (k + 1) = atK o x k := if_neg hc2
            have hcc : (bif decide (((o.getD k 0 : Nat) : Int) > (x : Int)) then (((atK o x k : Nat) : Int) == (o.length : Int)) else false) = false := by
              by_cases h5 : o.getD k 0 > x
              · rw [decide_eq_true (by omega : ((o.getD k 0 : Nat) : Int) > (x : Int))]
                exact beq_eq_false_iff_ne.mpr fun e => hc2 ⟨h5, Int.ofNat_inj.mp e⟩
              · rw [decide_eq_false (by omega : ¬ ((o.getD k 0 : Nat) : Int) > (x : Int))]; rfl
            refine ev_rs [] rfl (by repeat' (first | exact trivial | exact gd_t | exact gd_f | exact hk | exact k0 | exact k1 | exact (fun _ => rfl) | intro _ | apply And.intro | assumption | exact rfl | exact gd_t (by assumption) | exact gd_f (by assumption) | exact gd_a (by assumption) (by assumption) | exact gd_b (by assumption) (by assumption))) (ev_cf (congrArg (fun z => AV.p (PV.val (.bool z))) hcc) (ev_skip ?_))
            exact ev_region [] rfl trivial (round0 (k + 1) hk (by omega) ⟨le_0, le_0, le_0, le_0, le_0, le_0, le_0, le_0, le_e (congrArg (fun z : Nat => PV.val (.int .i64 (z : Int))) hst.symm), le_0, le_e (congrArg (fun z => PV.val (.int .i64 z)) (wrapI _ (by omega) (by omega))), trivial⟩)
        · have hk : k = o.length := by
            have := of_decide_eq_false h
            omega
          subst hk
          exact at0 () trivial ⟨le_0, le_0, le_0, le_0, le_0, le_0, le_0, le_0, le_e (congrArg (fun z : Nat => PV.val (.int .i64 (z : Int))) ht), le_e (congrArg Vinc.bool hkn), trivial⟩
      rintro ⟨⟩ -
      refine ev_rs [.tup 2 (two (i64 c) (i64 0))] rfl ⟨.inl hTx, trivial⟩ ?_
      refine ev_seq (ev_rs [] rfl (by repeat' (first | exact trivial | exact gd_t | exact gd_f | exact (fun _ => rfl) | intro _ | apply And.intro | assumption | exact rfl | exact gd_t (by assumption) | exact gd_f (by assumption) | exact gd_a (by assumption) (by assumption) | exact gd_b (by assumption) (by assumption))) (ev_cf (congrArg (fun z => AV.p (PV.val (.bool z))) (show (bif ((0 : Int) != 0) then true else ((c : Int) != (c : Int))) = false by rw [bne_self_eq_false, bne_self_eq_false]; rfl)) (ev_sk ?_)))
      have hi1 : IntKind.wrap .i64 ((i : Int) + 1) = ((i + 1 : Nat) : Int) := wrapI _ (by omega) (by omega)
      cases kn with
      | true =>
        refine ev_rs [] rfl trivial (ev_cf rfl (ev_skip ?_))
        have hmem : x ∈ o := mem_getDP.mpr ((knK_iff o x o.length).mp hkn)
        exact ev_region [] rfl trivial (round0 (i + 1, o) ⟨hi, h2, fun z => by
          rw [h3 z]
          constructor
          · rintro ⟨j, h5, h6⟩
            exact ⟨j, by omega, h6⟩
          · rintro ⟨j, h5, h6⟩
            by_cases e : j = i
            · subst e
              rw [hx] at h6
              subst h6
              exact (h3 x).mp hmem
            · exact ⟨j, by omega, h6⟩, by dsimp only; omega⟩ (by dsimp only; omega) ⟨le_0, le_0, le_0, le_0, le_0, le_e (congrArg (fun z => PV.val (.int .i64 z)) hi1), trivial⟩)
      | false =>
        obtain ⟨w1, w2⟩ := put_at h2 hkn
        rw [ht] at w1 w2
        have htk : (o.take t).length = t := by rw [List.length_take]; omega
        refine ev_rs [] rfl trivial (ev_ct rfl ?_)
        refine ev_rs [] rfl trivial ?_
        have t0 : (0 : Int) ≤ (t : Int) := by omega
        have t1 : (t : Int) ≤ (o.length : Int) := by omega
        refine ev_rs [] rfl ⟨⟨(by rw [Int.toNat_natCast]; omega), trivial⟩, ⟨t0, t1⟩, trivial⟩ ?_
        refine ev_obs 122 (ob64 (o.take t)) rfl htk (fun j hj => ?_) ?_
        · have hj : j < t := hj
          refine congrArg (fun z => AV.p (u64 z)) (?_ : (o.take t).getD j 0 = o.getD j 0)
          rw [List.getD_eq_getElem?_getD, List.getElem?_take_of_lt hj, ← List.getD_eq_getElem?_getD]
        refine ev_eq 19 (.own 122 0 (o.take t).length 1) (by rw [htk]; rfl) ?_
        refine ev_rs [] rfl ⟨⟨by omega, rfl, Nat.le_refl 1⟩, trivial⟩ (ev_app 19 126 (o.take t) [x] rfl rfl rfl rfl rfl (fun j hj => rfl) (fun j hj => ?_) ?_)
        · match j, hj with
          | 0, _ => rfl
        have htk2 : (o.take t ++ [x]).length = t + 1 := by rw [List.length_append, htk]; rfl
        have hdl : (o.drop t).length = o.length - t := List.length_drop
        refine ev_region [] rfl ?_ (ev_app 9 131 (o.take t ++ [x]) (o.drop t) rfl rfl ?_ ?_ rfl (fun j hj => rfl) (fun j hj => ?_) ?_)
        · exact ⟨⟨(by rw [Int.toNat_natCast]; omega), rfl, trivial⟩, ⟨t0, t1⟩, trivial⟩
        · rw [Int.toNat_natCast, hdl]
        · show (o.take t ++ [x]).length + (o.length - (t : Int).toNat) = _
          rw [Int.toNat_natCast, hdl]
        · have hsh : ∀ k : Nat, shiftF (fun j => u64 (o.getD j 0)) k j = u64 (o.getD (k + j) 0) := fun k => by
            cases k with
            | zero => rw [Nat.zero_add]; rfl
            | succ k => rfl
          refine (congrArg AV.p (hsh t)).trans (congrArg (fun z => AV.p (u64 z)) (?_ : o.getD (t + j) 0 = (o.drop t).getD j 0))
          rw [List.getD_eq_getElem?_getD, List.getD_eq_getElem?_getD, List.getElem?_drop]
        · exact ev_region [] rfl trivial (round0 (i + 1, o.take t ++ [x] ++ o.drop t) ⟨hi, w1, fun z => by
            rw [w2 z, h3 z]
            constructor
            · rintro (h5 | ⟨j, h5, h6⟩)
              · exact ⟨i, by omega, by rw [hx, h5]⟩
              · exact ⟨j, by omega, h6⟩
            · rintro ⟨j, h5, h6⟩
              by_cases e : j = i
              · subst e
                exact .inl (by rw [← h6, hx])
              · exact .inr ⟨j, by omega, h6⟩, by dsimp only; rw [List.length_append, htk2, hdl]; omega⟩ (by dsimp only; omega) ⟨le_0, le_0, le_0, le_0, le_fz' rfl rfl rfl, le_e (congrArg (fun z => PV.val (.int .i64 z)) hi1), trivial⟩)
    · have hi : i = l.length := by
        have := of_decide_eq_false h
        omega
      subst hi
      have hoR : o = R := lt_ext h2 hRlt fun z => by
        rw [h3 z, hmemR z]
        constructor
        · rintro ⟨j, h5, h6⟩
          exact ⟨by rw [← h6]; exact Nat.mod_lt _ hp0, l.getD j 0, mem_getDP.mpr ⟨j, h5, rfl⟩, h6⟩
        · rintro ⟨_, c, hc, h6⟩
          obtain ⟨j, h5, h7⟩ := mem_getDP.mp hc
          exact ⟨j, h5, by rw [h7]; exact h6⟩
      subst hoR
      exact at0 () trivial ⟨le_0, le_0, le_0, le_0, trivial⟩
  rintro ⟨⟩ -
  obtain ⟨e, m, hRo, hcase⟩ := hRo
  have hAll := RAll_spec hm R seeds (by omega) (by omega)
  refine ev_rs [.tup 2 (two (u64s m) (i64 e))] rfl ⟨.inl hRo, trivial⟩ ?_
  rcases hcase with ⟨hall, rfl, rfl⟩ | ⟨hall, rfl, rfl⟩
  · have hAt := hAll true ⟨fun _ => hall, fun _ => rfl⟩
    have hSm := same_t m (by omega)
    refine ev_seq (ev_rs [Vinc.bool true] rfl ⟨.inl hAt, trivial⟩ (ev_cf rfl (ev_sk ?_)))
    exact ev_rs [Vinc.bool true, Vinc.bool true] rfl (by repeat' (first | exact trivial | exact gd_t | exact gd_f | exact .inl hSm | exact .inl awake11_spec | exact (fun _ => rfl) | intro _ | apply And.intro | assumption | exact rfl | exact gd_t (by assumption) | exact gd_f (by assumption) | exact gd_a (by assumption) (by assumption) | exact gd_b (by assumption) (by assumption))) (ev_ret (ret1 (fz_p (PLe.of_eq rfl))))
  · have hAf := hAll false ⟨fun h => Bool.noConfusion h, fun h => absurd h hall⟩
    refine ev_seq (ev_rs [Vinc.bool false] rfl ⟨.inl hAf, trivial⟩ (ev_ct rfl ?_))
    exact ev_rs [Vinc.bool true] rfl (by repeat' (first | exact trivial | exact gd_t | exact gd_f | exact .inl awake11_spec | exact (fun _ => rfl) | intro _ | apply And.intro | assumption | exact rfl | exact gd_t (by assumption) | exact gd_f (by assumption) | exact gd_a (by assumption) (by assumption) | exact gd_b (by assumption) (by assumption))) (ev_ret (ret1 (fz_p (PLe.of_eq rfl))))

end Go.Proofs
