/- Part 5 of the proof's texts, joined: Nw6, Nw7, Nw8, Nw9, Refo, Nwa, Nwb. -/
import Derived.Test.YtdafncbodihjhaaGreatDoorB4

/- newton, walked: the polynomial that has values at places; the reference's. -/
set_option linter.unusedVariables false
namespace Go.Proofs
open Go Vinc Vinc.Num

theorem putE_at (es : List (Int × Int)) (a b : Int) (h : ∀ q ∈ es, q.1 ≠ a) : putE es a b = es ++ [(a, b)] := putE_new (ixE_none.mpr h)

theorem row_wk {c : Cx} {σ : St} {p : Nat} {s : RS} {l : List (Nat × AV)} (h0 : σ.h 900 = some (rowOb p s.now s.all)) (h1 : σ.h 901 = some (mapOb .u64 .u64 s.es))
    (ht : Ren σ (mk l (rowObs p s)) (fun i => i) → Slots c σ (mk l (rowObs p s)) (fun i => i) l) : Wk c σ (mk l (rowObs p s)) :=
  wk (fun i => i) (ht (row_ren h0 h1)) (row_same h0 h1).2 rfl

theorem row_at {c : Cx} {σ : St} {p : Nat} {s : RS} {l : List (Nat × AV)} (h0 : σ.h 900 = some (rowOb p s.now s.all)) (h1 : σ.h 901 = some (mapOb .u64 .u64 s.es))
    (ht : Ren σ (mk l (rowObs p s)) (fun i => i) → Slots c σ (mk l (rowObs p s)) (fun i => i) l) : MidN c (At (α := Unit) (fun _ => True) (fun _ => l) (fun _ => rowObs p s)) σ :=
  at_of (fun i => i) () trivial (ht (row_ren h0 h1)) (row_same h0 h1).2 rfl

/-- The row behind so many values. -/
noncomputable def rowM (p : Nat) (l v : List Nat) (i : Nat) : RS := rowN putE (minv p) p l v i

theorem rowM_len (p : Nat) (l v : List Nat) (i : Nat) : (rowM p l v i).now.length ≤ i + 1 ∧ (rowM p l v i).all.length ≤ i + 1 := rowN_len putE (minv p) p l v i
theorem rowM_ok {p : Nat} (hf : FdP p (minv p)) {l v : List Nat} (hv : v.length = l.length) (hd : Dist p l) (i : Nat) (hi : i ≤ l.length) : RowOk p (l.take i) (v.take i) (rowM p l v i) := rowN_ok hf hv hd putE_at i hi
theorem rowM_keys {p : Nat} {l v : List Nat} (hd : Dist p l) (i : Nat) (hi : i ≤ l.length) : (rowM p l v i).es.map (·.1) = (l.take i).map fun x => (((x % p : Nat)) : Int) := rowN_keys (v := v) (iv := minv p) hd putE_at i hi

/-- What is wrong with the value of what is 0 at all places. -/
noncomputable def wrongAt (p : Nat) (l v : List Nat) (i : Nat) : Nat := wrong (evalN p (l.getD i 0 % p) (rowM p l v i).all) p

theorem rowM_free {p : Nat} {l v : List Nat} (hd : Dist p l) {i : Nat} (hi : i < l.length) : lkB (rowM p l v i).es ((l.getD i 0 % p : Nat) : Int) = false ∧ (rowM p l v i).es.length = i := by
  have hk := rowM_keys (v := v) hd i (by omega)
  refine ⟨lkB_false.mpr (ixE_none.mpr fun q hq e => ?_), ?_⟩
  · have hm : q.1 ∈ (rowM p l v i).es.map (·.1) := List.mem_map.mpr ⟨q, hq, rfl⟩
    rw [hk] at hm
    obtain ⟨y, hy, he⟩ := List.mem_map.mp hm
    exact ((dist_next (p := p) (l := l) (i := i) hi).mp (dist_take hd (i + 1))).2 y hy (Int.ofNat_inj.mp (he.trans e))
  · have := congrArg List.length hk
    rw [List.length_map, List.length_map, List.length_take, Nat.min_eq_left (by omega)] at this
    exact this

set_option maxRecDepth 20000 in
theorem Fit_gen {p : Nat} (hm : MayM p) (hb : isB p = true) (l v : List Nat) (hl : l.length ≤ 190) (hv : l.length = v.length) (hd : Dist p l) (R : PV)
    (h1 : ∀ i, i < l.length → (∀ j, j < i → wrongAt p l v j = 0) → wrongAt p l v i ≠ 0 → R = .tup 2 (two nilS (i64 (wrongAt p l v i))))
    (h2 : (∀ j, j < l.length → wrongAt p l v j = 0) → R = .tup 2 (two (u64s (normN p (rowM p l v l.length).now)) (i64 0))) : CallSpec Tryz.pr.P Tryz.pr.G 17 [u64 p, u64s l, u64s v] R := by
  have hW := Wrong_spec hm l v
  rw [wrongE_ok hv (by omega) hd] at hW
  refine callSpec_of Tryz.pr Tryz.func17 rfl rfl rfl fun w0 ok0 hok hG => ?_
  refine ev_rs [] rfl trivial ?_
  refine ev_rg [.x ⟨[.p (u64 p)], [], [(900, rowOb p [] [1]), (901, mapOb .u64 .u64 [])], .tp 2 (twoA (.oat 900 0) (.p (i64 0)))⟩] rfl ⟨⟨rfl, trivial, RowNew_ok hm hb⟩, trivial⟩ ?_
  refine ev_seq (ev_rs [] rfl trivial (ev_cf rfl (ev_sk ?_)))
  refine ev_seq (ev_rs [i64 0] rfl (by repeat' (first | exact trivial | exact gd_t | exact gd_f | exact .inl hW | exact (by decide : (1 : Nat) < 5) | exact (fun _ => rfl) | intro _ | apply And.intro | assumption | exact rfl | exact gd_t (by assumption) | exact gd_f (by assumption) | exact gd_a (by assumption) (by assumption))) (ev_rs [] rfl trivial (ev_cf rfl (ev_sk ?_))))
  refine ev_at (α := Unit) (fun _ => ∀ j, j < l.length → wrongAt p l v j = 0) (fun _ => [(8, .oat 900 0)]) (fun _ => rowObs p (rowM p l v l.length)) ?_ ?_
  · refine ev_rs [] rfl trivial ?_
    refine ev_block (ev_while (α := Nat) (fun i => i ≤ l.length ∧ ∀ j, j < i → wrongAt p l v j = 0) (fun i => [(2, .p (u64s v)), (8, .oat 900 0), (33, .p (u64s l)), (34, .p (i64 l.length)), (35, .p (i64 i))]) (fun i => rowObs p (rowM p l v i)) (fun i => l.length - i) 0
      ⟨Nat.zero_le _, fun j hj => absurd hj (Nat.not_lt_zero _)⟩ (row_wk (s := rowM p l v 0) rfl rfl (fun hd => ⟨le_refl hd _, le_a rfl, le_refl hd _, le_refl hd _, le_refl hd _, trivial⟩)) ?_)
    rintro i ⟨h3, h4⟩
    refine ev_rs [] rfl trivial (ev_seq (ev_cond rfl (fun h => ev_sk ?_) (fun h => ev_exit ?_)))
    · have hi : i < l.length := Int.ofNat_lt.mp (of_decide_eq_true h)
      obtain ⟨q1, q2⟩ := rowM_free (v := v) hd hi
      obtain ⟨q3, q4⟩ := rowM_len p l v i
      have hst : rowM p l v (i + 1) = stepR putE (minv p) p (rowM p l v i) (l.getD i 0) (v.getD i 0) := rfl
      have hw : wrong (evalN p (l.getD i 0 % p) (rowM p l v i).all) p = wrongAt p l v i := rfl
      generalize rowM p l v i = s at *
      obtain ⟨x, hx⟩ : ∃ x, l.getD i 0 = x := ⟨_, rfl⟩
      obtain ⟨y, hy⟩ : ∃ y, v.getD i 0 = y := ⟨_, rfl⟩
      refine ev_seq (ev_block ?_)
      refine ev_rs [] rfl ⟨hi, ⟨by omega, by omega⟩, trivial⟩ (ev_eq 12 (.p (u64 x)) (congrArg (fun n : Nat => AV.p (u64 n)) hx) ?_)
      rw [hx] at q1 hw hst
      rw [hy] at hst
      by_cases hz : wrongAt p l v i = 0
      · refine ev_rg [.x ⟨[.oat 900 0, .p (u64 x), .p (u64 (v.getD i 0))], rowObs p s, rowObs p (stepR putE (minv p) p s x (v.getD i 0)), .tp 2 (twoA (.p (Vinc.bool (((sb (v.getD i 0 % p) (evalN p (x % p) s.now) p : Nat) : Int) == 0))) (.p (i64 0)))⟩] rfl
          ⟨⟨rfl, ⟨rfl, rfl, trivial⟩, Add_ok hm s x (v.getD i 0) q1 (by omega) (by omega) (by omega) (hw.trans hz)⟩, (by omega : i < v.length), ⟨by omega, by omega⟩, trivial⟩ ?_
        refine ev_rs [] rfl trivial (ev_cf rfl (ev_skip ?_))
        rw [← hy] at hst
        refine ev_region [] rfl trivial ⟨i + 1, ⟨hi, fun j hj => ?_⟩, by dsimp only; omega, ?_⟩
        · by_cases e : j = i
          · rw [e]; exact hz
          · exact h4 j (by omega)
        · show Wk _ _ (mk _ (rowObs p (rowM p l v (i + 1))))
          rw [hst]
          exact row_wk rfl rfl (fun hd => ⟨le_refl hd _, le_a rfl, le_refl hd _, le_refl hd _, le_n hd (congrArg (fun z => PV.val (.int .i64 z)) (wrapI _ (by omega) (by omega))), trivial⟩)
      · have hR := h1 i hi h4 hz
        refine ev_rg [.x ⟨[.oat 900 0, .p (u64 x), .p (u64 (v.getD i 0))], rowObs p s, rowObs p s, .tp 2 (twoA (.p (Vinc.bool false)) (.p (i64 (wrongAt p l v i))))⟩] rfl
          ⟨⟨rfl, ⟨rfl, rfl, trivial⟩, Add_inv hm s x (v.getD i 0) q1 (by omega) (by omega) (by omega) hw hz⟩, (by omega : i < v.length), ⟨by omega, by omega⟩, trivial⟩ ?_
        have hc : ((wrongAt p l v i : Int) != 0) = true := bne_iff_ne.mpr (by omega)
        refine ev_rs [] rfl trivial (ev_ct (congrArg (fun z => AV.p (PV.val (.bool z))) hc) ?_)
        rw [hR]
        exact ev_rs [] rfl trivial (ev_ret (ret2 (fz_p (PLe.refl _)) (fz_p (PLe.refl _))))
    · have hi : i = l.length := by
        have := of_decide_eq_false h
        omega
      subst hi
      exact at_of (fun i => i) () h4 ⟨le_a rfl, trivial⟩ (row_same rfl rfl).2 rfl
  rintro ⟨⟩ h4
  rw [h2 h4]
  obtain ⟨q3, q4⟩ := rowM_len p l v l.length
  refine ev_rg [.x ⟨[.oat 900 0], rowObs p (rowM p l v l.length), rowObs p (rowM p l v l.length), .p (u64s (normN p (rowM p l v l.length).now))⟩] rfl ⟨⟨rfl, ⟨rfl, rfl, trivial⟩, RowPoly_spec hm _ (by omega)⟩, trivial⟩ (ev_ret ?_)
  exact ret2 (fz_p (PLe.refl _)) (fz_p (PLe.refl _))

theorem Fit_wrong {p : Nat} (hm : MayM p) (hb : isB p = true) (l v : List Nat) (h : wrongE p l v ≠ 0) : CallSpec Tryz.pr.P Tryz.pr.G 17 [u64 p, u64s l, u64s v] (.tup 2 (two nilS (i64 (wrongE p l v)))) := by
  have hW := Wrong_spec hm l v
  have hc : (wrongE p l v != 0) = true := bne_iff_ne.mpr h
  generalize wrongE p l v = e at *
  refine callSpec_of Tryz.pr Tryz.func17 rfl rfl rfl fun w0 ok0 hok hG => ?_
  refine ev_rs [] rfl trivial ?_
  refine ev_rg [.x ⟨[.p (u64 p)], [], [(900, rowOb p [] [1]), (901, mapOb .u64 .u64 [])], .tp 2 (twoA (.oat 900 0) (.p (i64 0)))⟩] rfl ⟨⟨rfl, trivial, RowNew_ok hm hb⟩, trivial⟩ ?_
  refine ev_seq (ev_rs [] rfl trivial (ev_cf rfl (ev_sk ?_)))
  refine ev_seq (ev_rs [i64 e] rfl (by repeat' (first | exact trivial | exact gd_t | exact gd_f | exact .inl hW | exact (by decide : (1 : Nat) < 5) | exact (fun _ => rfl) | intro _ | apply And.intro | assumption | exact rfl | exact gd_t (by assumption) | exact gd_f (by assumption) | exact gd_a (by assumption) (by assumption))) (ev_rs [] rfl trivial (ev_ct (congrArg (fun z => AV.p (PV.val (.bool z))) hc) ?_)))
  exact ev_rs [] rfl trivial (ev_ret (ret2 (fz_p (PLe.refl _)) (fz_p (PLe.refl _))))

theorem RowNew_no {p : Nat} (hp : p < 18446744073709551616) (h : ¬ (p < 9223372036854775808 ∧ isB p = true)) : CallSpec Tryz.pr.P Tryz.pr.G 23 [u64 p] (.tup 2 (two nilP (i64 14))) := by
  refine callSpec_of Tryz.pr Tryz.func23 rfl rfl rfl fun w0 ok0 hok hG => ?_
  refine ev_rs [] rfl trivial ?_
  refine ev_rs [.tup 3 (three nilP nilP (i64 14))] rfl ⟨.inl (Fields_no hp h), trivial⟩ ?_
  refine ev_seq (ev_rs [] rfl trivial (ev_ct rfl ?_))
  exact ev_rs [] rfl trivial (ev_ret (ret2 (fz_p (PLe.refl _)) (fz_p (PLe.refl _))))

theorem Fit_no {p : Nat} (hp : p < 18446744073709551616) (h : ¬ (p < 9223372036854775808 ∧ isB p = true)) (l v : List Nat) : CallSpec Tryz.pr.P Tryz.pr.G 17 [u64 p, u64s l, u64s v] (.tup 2 (two nilS (i64 14))) := by
  refine callSpec_of Tryz.pr Tryz.func17 rfl rfl rfl fun w0 ok0 hok hG => ?_
  refine ev_rs [] rfl trivial ?_
  refine ev_rs [.tup 2 (two nilP (i64 14))] rfl ⟨.inl (RowNew_no hp h), trivial⟩ ?_
  refine ev_seq (ev_rs [] rfl trivial (ev_ct rfl ?_))
  exact ev_rs [] rfl trivial (ev_ret (ret2 (fz_p (PLe.refl _)) (fz_p (PLe.refl _))))

/-- The first place at which something is wrong, if there is one. -/
theorem first_bad (w : Nat → Nat) : ∀ n, (∀ j, j < n → w j = 0) ∨ ∃ i, i < n ∧ (∀ j, j < i → w j = 0) ∧ w i ≠ 0
  | 0 => .inl fun j hj => absurd hj (Nat.not_lt_zero _)
  | n + 1 => by
    rcases first_bad w n with h | ⟨i, h1, h2, h3⟩
    · by_cases hz : w n = 0
      · refine .inl fun j hj => ?_
        by_cases e : j = n
        · rw [e]; exact hz
        · exact h j (by omega)
      · exact .inr ⟨n, by omega, h, hz⟩
    · exact .inr ⟨i, by omega, h2, h3⟩

/-- Whatever it answers of a number that passes for a prime. -/
theorem Fit_any {p : Nat} (hm : MayM p) (hb : isB p = true) (l v : List Nat) (hl : l.length ≤ 190) : ∃ (o : List Nat) (e : Int), CallSpec Tryz.pr.P Tryz.pr.G 17 [u64 p, u64s l, u64s v] (.tup 2 (two (u64s o) (i64 e))) := by
  by_cases hw : wrongE p l v = 0
  · have hv : l.length = v.length := Classical.byContradiction fun h => by rw [wrongE_len h] at hw; cases hw
    have hd : Dist p l := Classical.byContradiction fun h => by
      unfold wrongE at hw
      rw [if_neg (by omega), if_neg (by omega), if_neg h] at hw
      cases hw
    rcases first_bad (wrongAt p l v) l.length with h | ⟨i, h1, h2, h3⟩
    · exact ⟨_, _, Fit_gen hm hb l v hl hv hd _ (fun i hi _ hz => absurd (h i hi) hz) (fun _ => rfl)⟩
    · have hs := Fit_gen hm hb l v hl hv hd (.tup 2 (two nilS (i64 (wrongAt p l v i)))) (fun k hk hj hz => by
        have : k = i := by
          rcases Nat.lt_trichotomy k i with h | h | h
          · exact absurd (h2 k h) hz
          · exact h
          · exact absurd (hj i h) h3
        rw [this]) (fun h => absurd (h i h1) h3)
      exact ⟨[], _, callSpec_res (PLe.two2 PLe.nil (PLe.refl _)) hs⟩
  · exact ⟨[], _, callSpec_res (PLe.two2 PLe.nil (PLe.refl _)) (Fit_wrong hm hb l v hw)⟩

theorem wrongAt_zero {p : Nat} (hf : FdP p (minv p)) (hm : MayM p) {l v : List Nat} (hv : l.length = v.length) (hd : Dist p l) {i : Nat} (hi : i < l.length) : wrongAt p l v i = 0 := by
  have hr := rowM_ok hf hv.symm hd i (by omega)
  have hx := ((dist_next (p := p) (l := l) (i := i) hi).mp (dist_take hd (i + 1))).2
  have hne := hr.fresh hf.prime hx
  unfold wrongAt
  refine (wrong_gcd hm).mpr ?_
  rw [Nat.gcd_comm]
  exact hf.prime.coprime fun h => hne (Nat.mod_eq_zero_of_dvd h)

/-- What it answers modulo a prime. -/
theorem Fit_ok {p : Nat} (hm : MayM p) (hb : isB p = true) (hf : FdP p (minv p)) (l v : List Nat) (hl : l.length ≤ 190) (hv : l.length = v.length) (hd : Dist p l) :
    CallSpec Tryz.pr.P Tryz.pr.G 17 [u64 p, u64s l, u64s v] (.tup 2 (two (u64s (rowM p l v l.length).now) (i64 0))) := by
  have hr := rowM_ok hf hv.symm hd l.length (Nat.le_refl _)
  refine Fit_gen hm hb l v hl hv hd _ (fun i hi _ hz => absurd (wrongAt_zero hf hm hv hd hi) hz) (fun _ => ?_)
  rw [hr.nz.norm_id hf.pos]

end Go.Proofs

/- newton, walked: the reference's polynomial and sums; the numbers that come to sums. -/
set_option linter.unusedVariables false
namespace Go.Proofs
open Go Vinc Vinc.Num

theorem lagF_le {p : Nat} (hp : 0 < p) (l : List Nat) (i k : Nat) : (lagF p l i k).length ≤ k + 1 := by
  have := lagF_len hp l i k
  split at this <;> omega

theorem sub_lt2 {p : Nat} (hm : MayM p) (c d : Nat) : (c % p + p - d % p) % p < 18446744073709551616 := by
  have := Nat.mod_lt (c % p + p - d % p) (show 0 < p by have := hm.1; omega)
  have := hm.2
  omega

theorem pair_w64 {p : Nat} (hm : MayM p) (c d : Nat) : W64 (pairR p c d) := fun j => by
  have hp : 0 < p := by have := hm.1; omega
  have h2 := hm.2
  have h1 : ∀ x, x % p < 18446744073709551616 := fun x => by have := Nat.mod_lt x hp; omega
  match j with
  | 0 => exact h1 _
  | 1 => exact h1 _
  | j + 2 => rw [getD_ge (by show 2 ≤ _; omega)]; omega

set_option maxRecDepth 20000 in
theorem RLag_spec {p : Nat} (hm : MayM p) (l : List Nat) (i : Nat) (hi : i < l.length) (hl : l.length ≤ 1000) : CallSpec Tryz.pr.P Tryz.pr.G 34 [u64s l, i64 i, u64 p] (u64s (lagF p l i l.length)) := by
  have hp0 : 0 < p := by have := hm.1; omega
  have h2 := hm.2
  refine callSpec_of Tryz.pr Tryz.func34 rfl rfl rfl fun w0 ok0 hok hG => ?_
  refine ev_rs [] rfl trivial ?_
  refine ev_rs [] rfl trivial ?_
  refine ev_at (α := Unit) (fun _ => True) (fun _ => [(7, .p (u64s (lagF p l i l.length)))]) (fun _ => []) ?_ ?_
  · refine ev_rs [] rfl trivial ?_
    refine ev_block (ev_while0 (α := Nat) (fun k => k ≤ l.length) (fun k => [(0, .p (u64s l)), (1, .p (i64 i)), (2, .p (u64 p)), (7, .p (u64s (lagF p l i k))), (8, .p (i64 k))]) (fun k => l.length - k) 0
      (Nat.zero_le _) ⟨le_0, le_0, le_0, le_lit (xs := [1]) rfl rfl (Nat.le_refl 1) (fun j hj => by match j, hj with | 0, _ => rfl), le_0, trivial⟩ ?_)
    rintro k h1
    refine ev_seq (ev_rs [] rfl trivial (ev_cond rfl (fun h => ev_sk ?_) (fun h => ev_exit ?_)))
    · have hk : k < l.length := Int.ofNat_lt.mp (of_decide_eq_true h)
      have hst : lagF p l i (k + 1) = if k = i then lagF p l i k else rMul p (lagF p l i k) (pairR p (l.getD i 0) (l.getD k 0)) := rfl
      have hle := lagF_le hp0 l i k
      refine ev_seq (ev_block (ev_seq (ev_rs [] rfl trivial (ev_cond rfl (fun h => ev_exit ?_) (fun h => ev_sk ?_)))))
      · have e : k = i := Int.ofNat_inj.mp (beq_iff_eq.mp h)
        rw [if_pos e] at hst
        exact ev_region [] rfl trivial (round0 (k + 1) hk (by omega) ⟨le_0, le_0, le_0, le_e (congrArg u64s hst.symm), le_e (congrArg (fun z => PV.val (.int .i64 z)) (wrapI _ (by omega) (by omega))), trivial⟩)
      · have e : ¬ k = i := fun e => (beq_eq_false_iff_ne.mp h) (congrArg (fun n : Nat => (n : Int)) e)
        rw [if_neg e] at hst
        have i0 : (0 : Int) ≤ (i : Int) := by omega
        have i1 : (i : Int) < (l.length : Int) := by omega
        have k0 : (0 : Int) ≤ (k : Int) := by omega
        have k1 : (k : Int) < (l.length : Int) := by omega
        obtain ⟨c, hc⟩ : ∃ c, l.getD i 0 = c := ⟨_, rfl⟩
        obtain ⟨d, hd⟩ : ∃ d, l.getD k 0 = d := ⟨_, rfl⟩
        obtain ⟨s, hs⟩ : ∃ s, (c % p + p - d % p) % p = s := ⟨_, rfl⟩
        obtain ⟨t, ht⟩ : ∃ t, (0 % p + p - d % p) % p = t := ⟨_, rfl⟩
        have hs64 : s < 18446744073709551616 := hs ▸ sub_lt2 hm c d
        have hiv64 : rInv p s < 18446744073709551616 := by
          have : rInv p s < p := Nat.mod_lt _ hp0
          omega
        have hS1 : CallSpec Tryz.pr.P Tryz.pr.G 54 [u64 (l.getD i 0), u64 (l.getD k 0), u64 p] (u64 s) := by
          have := RefSub_spec hm c d
          rw [hc, hd, ← hs]
          exact this
        have hS2 : CallSpec Tryz.pr.P Tryz.pr.G 54 [u64 0, u64 (l.getD k 0), u64 p] (u64 t) := by
          have := RefSub_spec hm 0 d
          rw [hd, ← ht]
          exact this
        have hI := RInv_spec hm s hs64
        have hM := RefMul_spec hm t (rInv p s) hiv64
        have hpair : pairR p c d = [t * rInv p s % p, rInv p s] := by unfold pairR; rw [hs, ht]
        have hR := RMul_spec hm (lagF p l i k) (pairR p c d) (by omega) (by rw [hpair]; show 2 < 100000; omega) (pair_w64 hm c d)
        rw [hc, hd] at hst
        rw [← hst] at hR
        rw [hpair] at hR
        generalize rInv p s = iv at *
        generalize t * iv % p = u at *
        refine ev_ds [u64 s, u64 iv] (by kernel_rfl) rfl rfl (by repeat' (first | exact trivial | exact gd_t | exact gd_f | exact .inl hS1 | exact .inl hI | exact hi | exact hk | exact i0 | exact i1 | exact k0 | exact k1 | exact (fun _ => rfl) | intro _ | apply And.intro | assumption | exact rfl | exact gd_t (by assumption) | exact gd_f (by assumption) | exact gd_a (by assumption) (by assumption))) ?_
        refine ev_region [u64 t, u64 u, u64s (lagF p l i (k + 1))] rfl ?_ ?_
        · exact ⟨⟨⟨Nat.le_refl 2, trivial⟩, .inl (callSpec_args (as' := [u64s (lagF p l i k), u64s [u, iv], u64 p]) ⟨PLe.refl _, PLe.lit rfl (fun j hj => by match j, hj with | 0, _ => rfl | 1, _ => rfl), PLe.refl _, trivial⟩ hR)⟩, .inl hM, .inl hS2, hk, ⟨k0, k1⟩, trivial⟩
        exact ev_region [] rfl trivial (round0 (k + 1) hk (by omega) ⟨le_0, le_0, le_0, le_0, le_e (congrArg (fun z => PV.val (.int .i64 z)) (wrapI _ (by omega) (by omega))), trivial⟩)
    · have hk : k = l.length := by
        have := of_decide_eq_false h
        omega
      subst hk
      exact at0 () trivial ⟨le_0, trivial⟩
  rintro ⟨⟩ -
  exact ev_rs [] rfl trivial (ev_ret (ret1 (fz_p (PLe.refl _))))

set_option maxRecDepth 20000 in
theorem RFit_spec {p : Nat} (hm : MayM p) (l v : List Nat) (hv : l.length ≤ v.length) (hl : l.length ≤ 1000) (hw : W64 v) : CallSpec Tryz.pr.P Tryz.pr.G 19 [u64s l, u64s v, u64 p] (u64s (rFit p l v l.length)) := by
  have hp0 : 0 < p := by have := hm.1; omega
  refine callSpec_of Tryz.pr Tryz.func19 rfl rfl rfl fun w0 ok0 hok hG => ?_
  refine ev_rs [] rfl trivial ?_
  refine ev_rs [] rfl trivial ?_
  refine ev_at (α := Unit) (fun _ => True) (fun _ => [(7, .p (u64s (rFit p l v l.length)))]) (fun _ => []) ?_ ?_
  · refine ev_rs [] rfl trivial ?_
    refine ev_block (ev_while0 (α := Nat) (fun i => i ≤ l.length) (fun i => [(0, .p (u64s l)), (1, .p (u64s v)), (2, .p (u64 p)), (7, .p (u64s (rFit p l v i))), (8, .p (i64 i))]) (fun i => l.length - i) 0
      (Nat.zero_le _) ⟨le_0, le_0, le_0, le_p ren_nil PLe.nil, le_0, trivial⟩ ?_)
    rintro i h1
    refine ev_seq (ev_rs [] rfl trivial (ev_cond rfl (fun h => ev_sk ?_) (fun h => ev_exit ?_)))
    · have hi : i < l.length := Int.ofNat_lt.mp (of_decide_eq_true h)
      have hst : rFit p l v (i + 1) = rAdd p (rFit p l v i) (rScale p (lagF p l i l.length) (v.getD i 0)) := rfl
      have q1 := rFit_len hp0 l v i (by omega)
      have q2 := lagF_le hp0 l i l.length
      have q3 := rScale_len hp0 (lagF p l i l.length) (v.getD i 0)
      have hL := RLag_spec hm l i hi hl
      have hS := RScale_spec hm (lagF p l i l.length) (v.getD i 0) (by omega) (hw i)
      have hA := RAdd_spec hm (rFit p l v i) (rScale p (lagF p l i l.length) (v.getD i 0)) (by omega) (by omega)
      rw [← hst] at hA
      generalize rScale p (lagF p l i l.length) (v.getD i 0) = sc at *
      generalize lagF p l i l.length = lg at *
      have iv : i < v.length := by omega
      have i0 : (0 : Int) ≤ (i : Int) := by omega
      have i1 : (i : Int) < (v.length : Int) := by omega
      refine ev_seq (ev_block (ev_draw [u64s lg, u64s sc, u64s (rFit p l v (i + 1))] (by kernel_rfl) rfl rfl (by repeat' (first | exact trivial | exact gd_t | exact gd_f | exact .inl hL | exact .inl hS | exact .inl hA | exact iv | exact i0 | exact i1 | exact (fun _ => rfl) | intro _ | apply And.intro | assumption | exact rfl | exact gd_t (by assumption) | exact gd_f (by assumption) | exact gd_a (by assumption) (by assumption))) ?_))
      exact ev_region [] rfl trivial (round0 (i + 1) hi (by omega) ⟨le_0, le_0, le_0, le_0, le_e (congrArg (fun z => PV.val (.int .i64 z)) (wrapI _ (by omega) (by omega))), trivial⟩)
    · have hi : i = l.length := by
        have := of_decide_eq_false h
        omega
      subst hi
      exact at0 () trivial ⟨le_0, trivial⟩
  rintro ⟨⟩ -
  exact ev_rs [] rfl trivial (ev_ret (ret1 (fz_p (PLe.refl _))))

set_option maxRecDepth 20000 in
theorem RSum_spec {p : Nat} (hm : MayM p) (c l : List Nat) (m : Nat) (hc : c.length ≤ l.length) (hl : l.length ≤ 1000) (hw : W64 l) (hm64 : m < 18446744073709551616) : CallSpec Tryz.pr.P Tryz.pr.G 21 [u64s c, u64s l, u64 m, u64 p] (u64 (rSum p c l m c.length)) := by
  have hp0 : 0 < p := by have := hm.1; omega
  have hp2 := hm.2
  refine callSpec_of Tryz.pr Tryz.func21 rfl rfl rfl fun w0 ok0 hok hG => ?_
  refine ev_rs [] rfl trivial ?_
  refine ev_rs [] rfl trivial ?_
  refine ev_at (α := Unit) (fun _ => True) (fun _ => [(9, .p (u64 (rSum p c l m c.length)))]) (fun _ => []) ?_ ?_
  · refine ev_rs [] rfl trivial ?_
    refine ev_block (ev_while0 (α := Nat) (fun i => i ≤ c.length) (fun i => [(0, .p (u64s c)), (1, .p (u64s l)), (2, .p (u64 m)), (3, .p (u64 p)), (9, .p (u64 (rSum p c l m i))), (10, .p (i64 i))]) (fun i => c.length - i) 0
      (Nat.zero_le _) ⟨le_0, le_0, le_0, le_0, le_0, le_0, trivial⟩ ?_)
    rintro i h1
    refine ev_seq (ev_rs [] rfl trivial (ev_cond rfl (fun h => ev_sk ?_) (fun h => ev_exit ?_)))
    · have hi : i < c.length := Int.ofNat_lt.mp (of_decide_eq_true h)
      have hP := RefPow_spec hm (l.getD i 0) m (hw i) hm64
      have hplt : l.getD i 0 ^ m % p < 18446744073709551616 := by have := Nat.mod_lt (l.getD i 0 ^ m) hp0; omega
      have hM := RefMul_spec hm (c.getD i 0) (l.getD i 0 ^ m % p) hplt
      have hA := RefAdd_spec hm (rSum p c l m i) (c.getD i 0 * (l.getD i 0 ^ m % p) % p)
      have hst : rSum p c l m (i + 1) = (rSum p c l m i + c.getD i 0 * (l.getD i 0 ^ m % p) % p) % p := rfl
      rw [← hst] at hA
      generalize c.getD i 0 * (l.getD i 0 ^ m % p) % p = mm at *
      generalize l.getD i 0 ^ m % p = pw at *
      have il : i < l.length := by omega
      have i0 : (0 : Int) ≤ (i : Int) := by omega
      have i1 : (i : Int) < (l.length : Int) := by omega
      have i2 : (i : Int) < (c.length : Int) := by omega
      refine ev_seq (ev_block (ev_draw [u64 pw, u64 mm, u64 (rSum p c l m (i + 1))] (by kernel_rfl) rfl rfl (by repeat' (first | exact trivial | exact gd_t | exact gd_f | exact .inl hP | exact .inl hM | exact .inl hA | exact il | exact hi | exact i0 | exact i1 | exact i2 | exact (fun _ => rfl) | intro _ | apply And.intro | assumption | exact rfl | exact gd_t (by assumption) | exact gd_f (by assumption) | exact gd_a (by assumption) (by assumption))) ?_))
      exact ev_region [] rfl trivial (round0 (i + 1) hi (by omega) ⟨le_0, le_0, le_0, le_0, le_0, le_e (congrArg (fun z => PV.val (.int .i64 z)) (wrapI _ (by omega) (by omega))), trivial⟩)
    · have hi : i = c.length := by
        have := of_decide_eq_false h
        omega
      subst hi
      exact at0 () trivial ⟨le_0, trivial⟩
  rintro ⟨⟩ -
  exact ev_rs [] rfl trivial (ev_ret (ret1 (fz_p (PLe.refl _))))

/-! ### the numbers that come to sums -/

noncomputable def wrongQ (p : Nat) (l : List Nat) (i : Nat) : Nat := wrong (evalN p (l.getD i 0) (quoL (minv p) p l i)) p

noncomputable def outN (p : Nat) (l v : List Nat) (i : Nat) : Nat := outL (minv p) p l v i

set_option maxRecDepth 20000 in
theorem Sums_gen {p : Nat} (hm : MayM p) (hb : isB p = true) (l v : List Nat) (hl : l.length ≤ 190) (hv : l.length = v.length) (hd : Dist p l) (R : PV)
    (h1 : ∀ i, i < l.length → (∀ j, j < i → wrongQ p l j = 0) → wrongQ p l i ≠ 0 → R = .tup 2 (two nilS (i64 (wrongQ p l i))))
    (h2 : (∀ j, j < l.length → wrongQ p l j = 0) → R = .tup 2 (two (u64s (tabL (outN p l v) l.length)) (i64 0))) : CallSpec Tryz.pr.P Tryz.pr.G 20 [u64 p, u64s l, u64s v] R := by
  have hp1 : 1 < p := hm.1
  have hp0 : 0 < p := by omega
  have hW := Wrong_spec hm l v
  rw [wrongE_ok hv (by omega) hd] at hW
  have hPr := Product_spec hm l hl
  have hpl := (prodF_len hp1 l).1
  have hpn := (Nz.prodF hp1 l).norm_id hp0
  refine callSpec_of Tryz.pr Tryz.func20 rfl rfl rfl fun w0 ok0 hok hG => ?_
  refine ev_rs [] rfl trivial ?_
  refine ev_rs [.tup 3 (three (polyF p) (newF p) (i64 0))] rfl ⟨.inl (Fields_ok hm hb), trivial⟩ ?_
  refine ev_seq (ev_rs [] rfl trivial (ev_cf rfl (ev_sk ?_)))
  refine ev_seq (ev_rs [i64 0] rfl (by repeat' (first | exact trivial | exact gd_t | exact gd_f | exact .inl hW | exact (fun _ => rfl) | intro _ | apply And.intro | assumption | exact rfl | exact gd_t (by assumption) | exact gd_f (by assumption) | exact gd_a (by assumption) (by assumption))) (ev_rs [] rfl trivial (ev_cf rfl (ev_sk ?_))))
  refine ev_rs [u64s (prodF p l)] rfl ⟨.inl hPr, trivial⟩ ?_
  refine ev_rs [] rfl ⟨⟨by omega, Int.le_refl _, by omega⟩, trivial⟩ ?_
  refine ev_made 13 45 l.length rfl rfl rfl ?_
  refine ev_at (α := Unit) (fun _ => ∀ j, j < l.length → wrongQ p l j = 0) (fun _ => [(13, .p (u64s (tabL (outN p l v) l.length)))]) (fun _ => []) ?_ ?_
  · refine ev_rs [] rfl trivial ?_
    refine ev_block (ev_while (α := Nat) (fun i => i ≤ l.length ∧ ∀ j, j < i → wrongQ p l j = 0) (fun i => [(2, .p (u64s v)), (8, .p (polyF p)), (9, .p (newF p)), (12, .p (u64s (prodF p l))), (13, .own 45 0 l.length 1), (46, .p (u64s l)), (47, .p (i64 l.length)), (48, .p (i64 i))]) (fun i => [(45, ob64 (tabK (outN p l v) l.length i))]) (fun i => l.length - i) 0
      ⟨Nat.zero_le _, fun j hj => absurd hj (Nat.not_lt_zero _)⟩ (wk_ob rfl (fun hd => ⟨le_refl hd _, le_refl hd _, le_refl hd _, le_refl hd _, le_o rfl, le_refl hd _, le_refl hd _, le_refl hd _, trivial⟩)) ?_)
    rintro i ⟨h3, h4⟩
    refine ev_rs [] rfl trivial (ev_seq (ev_cond rfl (fun h => ev_sk ?_) (fun h => ev_exit ?_)))
    · have hi : i < l.length := Int.ofNat_lt.mp (of_decide_eq_true h)
      have hck := length_tabK (outN p l v) l.length i
      obtain ⟨x, hx⟩ : ∃ x, l.getD i 0 = x := ⟨_, rfl⟩
      have hln := (Nz.lin hp1 x).norm_id hp0
      have hD := DivM_ok hm (prodF p l) (lin p x) (by omega) (by show 2 < 100000; omega) (by rw [hln]; exact Nat.zero_lt_succ 1)
      rw [hpn, hln] at hD
      have hql := quot_len (minv p) p (prodF p l) (lin p x)
      have hq : quoL (minv p) p l i = (divN (minv p) p (prodF p l) (lin p x)).1 := by unfold quoL; rw [hx]
      have hout : outN p l v i = sumQ p (divN (minv p) p (prodF p l) (lin p x)).1 v (divN (minv p) p (prodF p l) (lin p x)).1.length * minv p (evalN p x (divN (minv p) p (prodF p l) (lin p x)).1) % p := by
        unfold outN outL
        rw [hq, hx]
      have hwq : wrongQ p l i = wrong (evalN p x (divN (minv p) p (prodF p l) (lin p x)).1) p := by unfold wrongQ; rw [hq, hx]
      have hql : (divN (minv p) p (prodF p l) (lin p x)).1.length ≤ l.length := by
        have e : (lin p x).length = 2 := rfl
        omega
      have hE := EvalN_spec hm (divN (minv p) p (prodF p l) (lin p x)).1 x (by omega)
      have hI : ∀ b t : Nat, CallSpec Tryz.pr.P Tryz.pr.G 38 [fld p b t, u64 (evalN p x (divN (minv p) p (prodF p l) (lin p x)).1)] (.tup 2 (two (u64 (minv p (evalN p x (divN (minv p) p (prodF p l) (lin p x)).1))) (i64 (wrongQ p l i)))) := fun b t => hwq ▸ Inv_spec hm _
      generalize (divN (minv p) p (prodF p l) (lin p x)).1 = q at *
      generalize (divN (minv p) p (prodF p l) (lin p x)).2 = r at *
      generalize prodF p l = P at *
      obtain ⟨ev, hev⟩ : ∃ ev, evalN p x q = ev := ⟨_, rfl⟩
      rw [hev] at hE hI hout
      obtain ⟨iv, hiv⟩ : ∃ iv, minv p ev = iv := ⟨_, rfl⟩
      rw [hiv] at hI hout
      refine ev_seq (ev_block ?_)
      refine ev_rs [] rfl ⟨hi, ⟨by omega, by omega⟩, trivial⟩ (ev_eq 15 (.p (u64 x)) (congrArg (fun n : Nat => AV.p (u64 n)) hx) ?_)
      refine ev_rs [u64s (lin p x), .tup 3 (three (u64s q) (u64s r) (i64 0))] rfl ⟨.inl hD, .inl (Less_spec hm x), trivial⟩ ?_
      refine ev_seq (ev_rs [] rfl trivial (ev_cf rfl (ev_sk ?_)))
      refine ev_rs [u64 ev, .tup 2 (two (u64 iv) (i64 (wrongQ p l i)))] rfl ⟨.inl (hI _ _), .inl hE, trivial⟩ ?_
      by_cases hz : wrongQ p l i = 0
      · have hc : ((wrongQ p l i : Int) != 0) = false := by rw [hz]; rfl
        refine ev_seq (ev_rs [] rfl trivial (ev_cf (congrArg (fun z => AV.p (PV.val (.bool z))) hc) (ev_sk ?_)))
        refine ev_rs [] rfl trivial ?_
        refine ev_at (α := Unit) (fun _ => True) (fun _ => [(2, .p (u64s v)), (8, .p (polyF p)), (9, .p (newF p)), (12, .p (u64s P)), (13, .own 45 0 l.length 1), (14, .p (i64 i)), (19, .p (u64 iv)), (20, .p (u64 (sumQ p q v q.length))), (46, .p (u64s l)), (47, .p (i64 l.length)), (48, .p (i64 i))]) (fun _ => [(45, ob64 (tabK (outN p l v) l.length i))]) ?_ ?_
        · refine ev_rs [] rfl trivial ?_
          refine ev_block (ev_while (α := Nat) (fun k => k ≤ q.length) (fun k => [(2, .p (u64s v)), (8, .p (polyF p)), (9, .p (newF p)), (12, .p (u64s P)), (13, .own 45 0 l.length 1), (14, .p (i64 i)), (19, .p (u64 iv)), (20, .p (u64 (sumQ p q v k))), (46, .p (u64s l)), (47, .p (i64 l.length)), (48, .p (i64 i)), (78, .p (u64s q)), (79, .p (i64 q.length)), (80, .p (i64 k))]) (fun k => [(45, ob64 (tabK (outN p l v) l.length i))]) (fun k => q.length - k) 0
            (Nat.zero_le _) (wk_ob rfl (fun hd => ⟨le_refl hd _, le_refl hd _, le_refl hd _, le_refl hd _, le_o rfl, le_refl hd _, le_refl hd _, le_refl hd _, le_refl hd _, le_refl hd _, le_refl hd _, le_refl hd _, le_refl hd _, le_refl hd _, trivial⟩)) ?_)
          rintro k h5
          refine ev_rs [] rfl trivial (ev_seq (ev_cond rfl (fun h => ev_sk ?_) (fun h => ev_exit ?_)))
          · have hk : k < q.length := Int.ofNat_lt.mp (of_decide_eq_true h)
            have hkv : k < v.length := by omega
            have hst : sumQ p q v (k + 1) = (sumQ p q v k + q.getD k 0 * v.getD k 0 % p) % p := rfl
            have hA := Add_spec hm (b := bk p) (t := tw p) (sumQ p q v k) (q.getD k 0 * v.getD k 0 % p)
            rw [← hst] at hA
            refine ev_seq (ev_block ?_)
            refine ev_rs [] rfl ⟨hk, ⟨by omega, by omega⟩, trivial⟩ ?_
            refine ev_region [u64 (q.getD k 0 * v.getD k 0 % p), u64 (sumQ p q v (k + 1))] rfl ⟨.inl hA, .inl (Mul_spec hm _ _), hkv, ⟨by omega, by omega⟩, trivial⟩ ?_
            exact ev_region [] rfl trivial ⟨k + 1, hk, by dsimp only; omega, wk_ob rfl (fun hd => ⟨le_refl hd _, le_refl hd _, le_refl hd _, le_refl hd _, le_o rfl, le_refl hd _, le_refl hd _, le_refl hd _, le_refl hd _, le_refl hd _, le_refl hd _, le_refl hd _, le_refl hd _, le_n hd (congrArg (fun z => PV.val (.int .i64 z)) (wrapI _ (by omega) (by omega))), trivial⟩)⟩
          · have hk : k = q.length := by
              have := of_decide_eq_false h
              omega
            subst hk
            exact at_ob () trivial rfl (fun hd => ⟨le_refl hd _, le_refl hd _, le_refl hd _, le_refl hd _, le_o rfl, le_refl hd _, le_refl hd _, le_refl hd _, le_refl hd _, le_refl hd _, le_refl hd _, trivial⟩)
        rintro ⟨⟩ -
        have hM : CallSpec Tryz.pr.P Tryz.pr.G 41 [newF p, u64 (sumQ p q v q.length), u64 iv] (u64 (outN p l v i)) := by
          rw [hout]
          exact Mul_spec hm _ _
        refine ev_region [u64 (outN p l v i)] rfl ⟨(by omega : i + 1 ≤ (tabK (outN p l v) l.length i).length), ⟨by omega, by omega⟩, .inl hM, trivial⟩ ?_
        refine ev_set 45 i (outN p l v i) rfl rfl rfl (by omega) ?_
        exact ev_region [] rfl trivial ⟨i + 1, ⟨hi, fun j hj => by
          by_cases e : j = i
          · rw [e]; exact hz
          · exact h4 j (by omega)⟩, by dsimp only; omega, wk_ob rfl (fun hd => ⟨le_refl hd _, le_refl hd _, le_refl hd _, le_refl hd _, le_o rfl, le_refl hd _, le_refl hd _, le_n hd (congrArg (fun z => PV.val (.int .i64 z)) (wrapI _ (by omega) (by omega))), trivial⟩)⟩
      · have hR := h1 i hi h4 hz
        have hc : ((wrongQ p l i : Int) != 0) = true := bne_iff_ne.mpr (by omega)
        refine ev_seq (ev_rs [] rfl trivial (ev_ct (congrArg (fun z => AV.p (PV.val (.bool z))) hc) ?_))
        rw [hR]
        exact ev_rs [] rfl trivial (ev_ret (ret2 (fz_p (PLe.refl _)) (fz_p (PLe.refl _))))
    · have hi : i = l.length := by
        have := of_decide_eq_false h
        omega
      subst hi
      exact at0 () h4 ⟨le_fz' rfl (length_tabK _ l.length l.length).symm (tabK_all _ _), trivial⟩
  rintro ⟨⟩ h4
  rw [h2 h4]
  exact ev_rs [] rfl trivial (ev_ret (ret2 (fz_p (PLe.refl _)) (fz_p (PLe.refl _))))

end Go.Proofs

/- newton, walked: its laws on values, fits and sums. -/
set_option linter.unusedVariables false
namespace Go.Proofs
open Go Vinc Vinc.Num

theorem same_t (x : List Nat) (hx : x.length < 1000000) : CallSpec Tryz.pr.P Tryz.pr.G 15 [u64s x, u64s x] (Vinc.bool true) := by
  have := Same_spec x x hx hx
  rwa [decide_eq_true rfl] at this

/-- A law's words: whether the answer to a number that is asked nothing of may be. -/
theorem odd_t {p : Nat} {e : Int} (h : (100000 < p ∧ p < 9223372036854775808) ∨ e = 14) : CallSpec Tryz.pr.P Tryz.pr.G 14 [u64 p, i64 e] (Vinc.bool true) := by
  refine callSpec_of Tryz.pr Tryz.func14 rfl rfl rfl fun w0 ok0 hok hG => ?_
  refine ev_rs [] rfl trivial ?_
  refine ev_rs [] rfl (by repeat' (first | exact trivial | exact gd_t | exact gd_f | exact (fun _ => rfl) | intro _ | apply And.intro | assumption | exact rfl | exact gd_t (by assumption) | exact gd_f (by assumption) | exact gd_a (by assumption) (by assumption))) (ev_ret (ret1 (fz_p (PLe.of_eq (congrArg Vinc.bool ?_)))))
  show (bif (bif decide ((p : Int) > 100000) then decide ((p : Int) < 9223372036854775808) else false) then true else (e == 14)) = true
  rcases h with ⟨h1, h2⟩ | h
  · rw [decide_eq_true (by omega), decide_eq_true (by omega)]; rfl
  · rw [h]
    cases (bif decide ((p : Int) > 100000) then decide ((p : Int) < 9223372036854775808) else false) <;> rfl

theorem unasked {p : Nat} (hA : ¬ Asked p) : (MayM p ∧ isB p = true ∧ 100000 < p ∧ p < 9223372036854775808) ∨ ¬ (p < 9223372036854775808 ∧ isB p = true) := by
  by_cases hB : p < 9223372036854775808 ∧ isB p = true
  · have hbig : 100000 < p := by
      rcases Nat.lt_or_ge 100000 p with h1 | h1
      · exact h1
      · have := isB_not hA h1
        rw [hB.2] at this; cases this
    exact .inl ⟨⟨by omega, hB.1⟩, hB.2, hbig, hB.1⟩
  · exact .inr hB

theorem wrongE_zero {p : Nat} {l v : List Nat} (h : wrongE p l v = 0) : l.length = v.length ∧ l.length ≤ 4096 ∧ Dist p l := by
  have hv : l.length = v.length := Classical.byContradiction fun h1 => by rw [wrongE_len h1] at h; cases h
  have h2 : ¬ 4096 < l.length := fun h1 => by rw [wrongE_big hv h1] at h; cases h
  refine ⟨hv, by omega, Classical.byContradiction fun h1 => ?_⟩
  unfold wrongE at h
  rw [if_neg (by omega), if_neg (by omega), if_neg h1] at h
  cases h

theorem wrongE_same {p : Nat} {l v : List Nat} (h : wrongE p l v ≠ 0) (hv : l.length = v.length) (hl : l.length ≤ 4096) : wrongE p l v = 11 := by
  unfold wrongE at h ⊢
  rw [if_neg (by omega), if_neg (by omega)] at h ⊢
  split
  · rename_i hd; rw [if_pos hd] at h; exact absurd rfl h
  · rfl

/-! ### sums -/

theorem Sums_no {p : Nat} (hp : p < 18446744073709551616) (h : ¬ (p < 9223372036854775808 ∧ isB p = true)) (l v : List Nat) : CallSpec Tryz.pr.P Tryz.pr.G 20 [u64 p, u64s l, u64s v] (.tup 2 (two nilS (i64 14))) := by
  refine callSpec_of Tryz.pr Tryz.func20 rfl rfl rfl fun w0 ok0 hok hG => ?_
  refine ev_rs [] rfl trivial ?_
  refine ev_rs [.tup 3 (three nilP nilP (i64 14))] rfl ⟨.inl (Fields_no hp h), trivial⟩ ?_
  refine ev_seq (ev_rs [] rfl trivial (ev_ct rfl ?_))
  exact ev_rs [] rfl trivial (ev_ret (ret2 (fz_p (PLe.refl _)) (fz_p (PLe.refl _))))

theorem Sums_wrong {p : Nat} (hm : MayM p) (hb : isB p = true) (l v : List Nat) (h : wrongE p l v ≠ 0) : CallSpec Tryz.pr.P Tryz.pr.G 20 [u64 p, u64s l, u64s v] (.tup 2 (two nilS (i64 (wrongE p l v)))) := by
  have hW := Wrong_spec hm l v
  have hc : (wrongE p l v != 0) = true := bne_iff_ne.mpr h
  generalize wrongE p l v = e at *
  refine callSpec_of Tryz.pr Tryz.func20 rfl rfl rfl fun w0 ok0 hok hG => ?_
  refine ev_rs [] rfl trivial ?_
  refine ev_rs [.tup 3 (three (polyF p) (newF p) (i64 0))] rfl ⟨.inl (Fields_ok hm hb), trivial⟩ ?_
  refine ev_seq (ev_rs [] rfl trivial (ev_cf rfl (ev_sk ?_)))
  refine ev_seq (ev_rs [i64 e] rfl (by repeat' (first | exact trivial | exact gd_t | exact gd_f | exact .inl hW | exact (fun _ => rfl) | intro _ | apply And.intro | assumption | exact rfl | exact gd_t (by assumption) | exact gd_f (by assumption) | exact gd_a (by assumption) (by assumption))) (ev_rs [] rfl trivial (ev_ct (congrArg (fun z => AV.p (PV.val (.bool z))) hc) ?_)))
  exact ev_rs [] rfl trivial (ev_ret (ret2 (fz_p (PLe.refl _)) (fz_p (PLe.refl _))))

theorem wrongQ_zero {p : Nat} (hf : FdP p (minv p)) (hm : MayM p) {l : List Nat} (hd : Dist p l) {i : Nat} (hi : i < l.length) : wrongQ p l i = 0 := by
  obtain ⟨_, _, _, hne, _⟩ := quo_facts hf hd hi
  unfold wrongQ
  refine (wrong_gcd hm).mpr ?_
  rw [Nat.gcd_comm]
  exact hf.prime.coprime fun h => hne (Nat.mod_eq_zero_of_dvd h)

theorem Sums_ok {p : Nat} (hm : MayM p) (hb : isB p = true) (hf : FdP p (minv p)) (l v : List Nat) (hl : l.length ≤ 190) (hv : l.length = v.length) (hd : Dist p l) :
    CallSpec Tryz.pr.P Tryz.pr.G 20 [u64 p, u64s l, u64s v] (.tup 2 (two (u64s (tabL (outN p l v) l.length)) (i64 0))) :=
  Sums_gen hm hb l v hl hv hd _ (fun i hi _ hz => absurd (wrongQ_zero hf hm hd hi) hz) (fun _ => rfl)

theorem Sums_any {p : Nat} (hm : MayM p) (hb : isB p = true) (l v : List Nat) (hl : l.length ≤ 190) : ∃ (o : List Nat) (e : Int), CallSpec Tryz.pr.P Tryz.pr.G 20 [u64 p, u64s l, u64s v] (.tup 2 (two (u64s o) (i64 e))) := by
  by_cases hw : wrongE p l v = 0
  · obtain ⟨hv, _, hd⟩ := wrongE_zero hw
    rcases first_bad (wrongQ p l) l.length with h | ⟨i, h1, h2, h3⟩
    · exact ⟨_, _, Sums_gen hm hb l v hl hv hd _ (fun i hi _ hz => absurd (h i hi) hz) (fun _ => rfl)⟩
    · have hs := Sums_gen hm hb l v hl hv hd (.tup 2 (two nilS (i64 (wrongQ p l i)))) (fun k hk hj hz => by
        have : k = i := by
          rcases Nat.lt_trichotomy k i with h | h | h
          · exact absurd (h2 k h) hz
          · exact h
          · exact absurd (hj i h) h3
        rw [this]) (fun h => absurd (h i h1) h3)
      exact ⟨[], _, callSpec_res (PLe.two2 PLe.nil (PLe.refl _)) hs⟩
  · exact ⟨[], _, callSpec_res (PLe.two2 PLe.nil (PLe.refl _)) (Sums_wrong hm hb l v hw)⟩

/-! ### the chapter's examples -/

theorem vals7 : ([1, 2, 3].map fun x => evalN 7 x [0, 0, 1]) = [1, 4, 2] := by decide

theorem dist123 : Dist 7 [1, 2, 3] := by decide
theorem dist12 : Dist 7 [1, 2] := by decide

theorem fit7 : rFit 7 [1, 2, 3] [1, 4, 2] 3 = [0, 0, 1] := by decide +kernel

theorem sums7 : tabL (outL iv7 7 [1, 2] [3, 4]) 2 = [2, 1] := by decide +kernel

theorem prime7' : IsPrime 7 := isB_small (by decide) (by decide +kernel)
theorem asked7' : Asked 7 := .inr (.inr (.inr ⟨by decide, prime7'⟩))
theorem isB7' : isB 7 = true := by decide +kernel

theorem minv7' : minv 7 = iv7 := by
  funext x
  have hx : x % 7 < 7 := Nat.mod_lt _ (by decide)
  have h5 : x ^ 5 % 7 = (x % 7) ^ 5 % 7 := Nat.pow_mod _ _ _
  by_cases h0 : x % 7 = 0
  · rw [minv_none (by rw [← gcd_mod, h0]; decide)]
    show 0 = x ^ 5 % 7
    rw [h5, h0]
  · refine minv_eq (Nat.mod_lt _ (by decide)) ?_
    show x * (x ^ 5 % 7) % 7 = 1
    rw [Nat.mul_mod, Nat.mod_mod, h5]
    generalize x % 7 = r at *
    have : ∀ r, r < 7 → ¬ r = 0 → r * (r ^ 5 % 7) % 7 = 1 := by decide
    exact this r hx h0

theorem awake12_spec : CallSpec Tryz.pr.P Tryz.pr.G 11 [] (Vinc.bool true) := by
  have m7 : MayM 7 := ⟨by decide, by decide⟩
  have hf := asked_fd asked7'
  have hV := Values_ok m7 isB7' [0, 0, 1] [1, 2, 3] (by decide) (by decide)
  rw [vals7] at hV
  have hF := Fit_ok m7 isB7' hf [1, 2, 3] [1, 4, 2] (by decide) rfl dist123
  have hr := rowM_ok hf (v := [1, 4, 2]) (l := [1, 2, 3]) rfl dist123 3 (Nat.le_refl 3)
  have hfit := rFit_row hf hr
  have hfit : rFit 7 [1, 2, 3] [1, 4, 2] 3 = (rowM 7 [1, 2, 3] [1, 4, 2] 3).now := hfit
  rw [fit7] at hfit
  have hF : CallSpec Tryz.pr.P Tryz.pr.G 17 [u64 7, u64s [1, 2, 3], u64s [1, 4, 2]] (.tup 2 (two (u64s (rowM 7 [1, 2, 3] [1, 4, 2] 3).now) (i64 0))) := hF
  rw [← hfit] at hF
  have hS := Sums_ok m7 isB7' hf [1, 2] [3, 4] (by decide) rfl dist12
  have hS0 : tabL (outN 7 [1, 2] [3, 4]) 2 = [2, 1] := by
    unfold outN
    rw [minv7']
    exact sums7
  have hS : CallSpec Tryz.pr.P Tryz.pr.G 20 [u64 7, u64s [1, 2], u64s [3, 4]] (.tup 2 (two (u64s (tabL (outN 7 [1, 2] [3, 4]) 2)) (i64 0))) := hS
  rw [hS0] at hS
  have h1 := same_t [1, 4, 2] (by decide)
  have h2 := same_t [0, 0, 1] (by decide)
  have h3 := same_t [2, 1] (by decide)
  refine callSpec_of Tryz.pr Tryz.func11 rfl rfl rfl fun w0 ok0 hok hG => ?_
  refine ev_rs [] rfl trivial ?_
  refine ev_rs [.tup 2 (two (u64s [1, 4, 2]) (i64 0))] rfl ⟨⟨⟨Nat.le_refl 3, Nat.le_refl 3, trivial⟩, .inl (callSpec_args (as' := [u64 7, u64s [0, 0, 1], u64s [1, 2, 3]]) ⟨PLe.refl _, PLe.lit rfl (fun j hj => ?_), PLe.lit rfl (fun j hj => ?_), trivial⟩ hV)⟩, trivial⟩ ?_
  · match j, hj with
    | 0, _ | 1, _ | 2, _ => rfl
  · match j, hj with
    | 0, _ | 1, _ | 2, _ => rfl
  refine ev_rs [.tup 2 (two (u64s [0, 0, 1]) (i64 0))] rfl ⟨⟨⟨Nat.le_refl 3, Nat.le_refl 3, trivial⟩, .inl (callSpec_args (as' := [u64 7, u64s [1, 2, 3], u64s [1, 4, 2]]) ⟨PLe.refl _, PLe.lit rfl (fun j hj => ?_), PLe.lit rfl (fun j hj => ?_), trivial⟩ hF)⟩, trivial⟩ ?_
  · match j, hj with
    | 0, _ | 1, _ | 2, _ => rfl
  · match j, hj with
    | 0, _ | 1, _ | 2, _ => rfl
  refine ev_rs [.tup 2 (two (u64s [2, 1]) (i64 0))] rfl ⟨⟨⟨Nat.le_refl 2, Nat.le_refl 2, trivial⟩, .inl (callSpec_args (as' := [u64 7, u64s [1, 2], u64s [3, 4]]) ⟨PLe.refl _, PLe.lit rfl (fun j hj => ?_), PLe.lit rfl (fun j hj => ?_), trivial⟩ hS)⟩, trivial⟩ ?_
  · match j, hj with
    | 0, _ | 1, _ => rfl
  · match j, hj with
    | 0, _ | 1, _ => rfl
  refine ev_rs [Vinc.bool true, Vinc.bool true, Vinc.bool true] rfl ?_ (ev_ret (ret1 (fz_p (PLe.of_eq rfl))))
  have h1' : ∀ g : Nat → PV, (∀ j, j < 3 → g j = u64 ([1, 4, 2].getD j 0)) → CallOk Tryz.pr.P Tryz.pr.G 15 [u64s [1, 4, 2], .sl 3 1 g] (Vinc.bool true) := fun g hg =>
    .inl (callSpec_args (as' := [u64s [1, 4, 2], u64s [1, 4, 2]]) ⟨PLe.refl _, PLe.lit rfl hg, trivial⟩ h1)
  have h2' : ∀ g : Nat → PV, (∀ j, j < 3 → g j = u64 ([0, 0, 1].getD j 0)) → CallOk Tryz.pr.P Tryz.pr.G 15 [u64s [0, 0, 1], .sl 3 1 g] (Vinc.bool true) := fun g hg =>
    .inl (callSpec_args (as' := [u64s [0, 0, 1], u64s [0, 0, 1]]) ⟨PLe.refl _, PLe.lit rfl hg, trivial⟩ h2)
  have h3' : ∀ g : Nat → PV, (∀ j, j < 2 → g j = u64 ([2, 1].getD j 0)) → CallOk Tryz.pr.P Tryz.pr.G 15 [u64s [2, 1], .sl 2 1 g] (Vinc.bool true) := fun g hg =>
    .inl (callSpec_args (as' := [u64s [2, 1], u64s [2, 1]]) ⟨PLe.refl _, PLe.lit rfl hg, trivial⟩ h3)
  repeat' (first | exact trivial | exact gd_t | exact gd_f | exact Nat.le_refl 3 | exact Nat.le_refl 2 | exact (fun _ => rfl) | intro _ | apply And.intro | assumption | exact rfl)
  · refine h3' _ (fun j hj => ?_)
    match j, hj with
    | 0, _ => rfl
    | 1, _ => rfl
  · refine h2' _ (fun j hj => ?_)
    match j, hj with
    | 0, _ => rfl
    | 1, _ => rfl
    | 2, _ => rfl
  · refine h1' _ (fun j hj => ?_)
    match j, hj with
    | 0, _ => rfl
    | 1, _ => rfl
    | 2, _ => rfl

theorem LawPrimeN_t {p : Nat} (h : Asked p) : CallSpec Tryz.pr.P Tryz.pr.G 13 [u64 p] (Vinc.bool true) := askedB_t h ▸ LawPrime_spec p
theorem LawPrimeN_f {p : Nat} (h : ¬ Asked p) : CallSpec Tryz.pr.P Tryz.pr.G 13 [u64 p] (Vinc.bool false) := askedB_f h ▸ LawPrime_spec p

theorem or_f : ∀ a b : Bool, (bif a then true else b) = false → a = false ∧ b = false := by decide

set_option maxRecDepth 20000 in
theorem NewtonValues_spec (p : Nat) (a l : List Nat) (hp : p < 18446744073709551616) (hw : W64 l) : CallSpec Tryz.pr.P Tryz.pr.G 3 [u64 p, u64s a, u64s l] (Vinc.bool true) := by
  refine callSpec_of Tryz.pr Tryz.func3 rfl rfl rfl fun w0 ok0 hok hG => ?_
  refine ev_rs [] rfl trivial ?_
  refine ev_seq (ev_rs [] rfl (by repeat' (first | exact trivial | exact gd_t | exact gd_f | exact (fun _ => rfl) | intro _ | apply And.intro | assumption | exact rfl | exact gd_t (by assumption) | exact gd_f (by assumption) | exact gd_a (by assumption) (by assumption))) (ev_cond rfl (fun h => ?_) (fun h => ev_sk ?_)))
  · exact ev_rs [Vinc.bool true] rfl ⟨.inl awake12_spec, trivial⟩ (ev_ret (ret1 (fz_p (PLe.refl _))))
  obtain ⟨g1, g2⟩ := or_f _ _ h
  have ha : a.length ≤ 60 := by have := of_decide_eq_false g1; omega
  have hl : l.length ≤ 60 := by have := of_decide_eq_false g2; omega
  by_cases hA : Asked p
  · have hm := asked_may hA
    have hV := Values_ok hm (isB_asked hA) a l (by omega) (by omega)
    have hR := RValues_spec hm a l (by omega) (by omega) hw
    have hS := same_t (l.map fun x => evalN p x a) (by rw [List.length_map]; omega)
    generalize (l.map fun x => evalN p x a) = v at *
    refine ev_rs [.tup 2 (two (u64s v) (i64 0))] rfl ⟨.inl hV, trivial⟩ ?_
    refine ev_seq (ev_rs [Vinc.bool true] rfl ⟨.inl (LawPrimeN_t hA), trivial⟩ (ev_cf rfl (ev_sk ?_)))
    exact ev_rs [u64s v, Vinc.bool true, Vinc.bool true] rfl (by repeat' (first | exact trivial | exact gd_t | exact gd_f | exact .inl hR | exact .inl hS | exact .inl awake12_spec | exact (fun _ => rfl) | intro _ | apply And.intro | assumption | exact rfl | exact gd_t (by assumption) | exact gd_f (by assumption) | exact gd_a (by assumption) (by assumption))) (ev_ret (ret1 (fz_p (PLe.of_eq rfl))))
  · obtain ⟨v, e, hV, hO⟩ : ∃ (v : List Nat) (e : Int), CallSpec Tryz.pr.P Tryz.pr.G 12 [u64 p, u64s a, u64s l] (.tup 2 (two (u64s v) (i64 e))) ∧ ((100000 < p ∧ p < 9223372036854775808) ∨ e = 14) := by
      rcases unasked hA with ⟨hm, hb, h1, h2⟩ | hB
      · exact ⟨_, _, Values_ok hm hb a l (by omega) (by omega), .inl ⟨h1, h2⟩⟩
      · exact ⟨[], _, callSpec_res (PLe.two2 PLe.nil (PLe.refl _)) (Values_no hp hB a l), .inr rfl⟩
    have hOd := odd_t hO
    refine ev_rs [.tup 2 (two (u64s v) (i64 e))] rfl ⟨.inl hV, trivial⟩ ?_
    refine ev_seq (ev_rs [Vinc.bool false] rfl ⟨.inl (LawPrimeN_f hA), trivial⟩ (ev_ct rfl ?_))
    exact ev_rs [Vinc.bool true, Vinc.bool true] rfl (by repeat' (first | exact trivial | exact gd_t | exact gd_f | exact .inl hOd | exact .inl awake12_spec | exact (fun _ => rfl) | intro _ | apply And.intro | assumption | exact rfl | exact gd_t (by assumption) | exact gd_f (by assumption) | exact gd_a (by assumption) (by assumption))) (ev_ret (ret1 (fz_p (PLe.of_eq rfl))))

set_option maxRecDepth 20000 in
theorem NewtonFits_spec (p : Nat) (l v : List Nat) (hp : p < 18446744073709551616) (hw : W64 v) : CallSpec Tryz.pr.P Tryz.pr.G 4 [u64 p, u64s l, u64s v] (Vinc.bool true) := by
  refine callSpec_of Tryz.pr Tryz.func4 rfl rfl rfl fun w0 ok0 hok hG => ?_
  refine ev_rs [] rfl trivial ?_
  refine ev_seq (ev_rs [] rfl (by repeat' (first | exact trivial | exact gd_t | exact gd_f | exact (fun _ => rfl) | intro _ | apply And.intro | assumption | exact rfl | exact gd_t (by assumption) | exact gd_f (by assumption) | exact gd_a (by assumption) (by assumption))) (ev_cond rfl (fun h => ?_) (fun h => ev_sk ?_)))
  · exact ev_rs [Vinc.bool true] rfl ⟨.inl awake12_spec, trivial⟩ (ev_ret (ret1 (fz_p (PLe.refl _))))
  obtain ⟨g1, g2⟩ := or_f _ _ h
  have hl : l.length ≤ 12 := by have := of_decide_eq_false g1; omega
  have hvl : v.length ≤ 12 := by have := of_decide_eq_false g2; omega
  by_cases hA : Asked p
  · have hm := asked_may hA
    have hb := isB_asked hA
    have hf := asked_fd hA
    have hRW := RWrong_spec hm l v
    by_cases hz : wrongE p l v = 0
    · obtain ⟨hv, _, hd⟩ := wrongE_zero hz
      have hF := Fit_ok hm hb hf l v (by omega) hv hd
      have hr := rowM_ok hf hv.symm hd l.length (Nat.le_refl _)
      rw [List.take_length, List.take_of_length_le (by omega)] at hr
      have hR := RFit_spec hm l v (by omega) (by omega) hw
      rw [rFit_row hf hr] at hR
      have hS := same_t (rowM p l v l.length).now (by have := (rowM_len p l v l.length).1; omega)
      generalize (rowM p l v l.length).now = o at *
      rw [hz] at hRW
      refine ev_rs [.tup 2 (two (u64s o) (i64 0))] rfl ⟨.inl hF, trivial⟩ ?_
      refine ev_seq (ev_rs [Vinc.bool true] rfl ⟨.inl (LawPrimeN_t hA), trivial⟩ (ev_cf rfl (ev_sk ?_)))
      refine ev_rs [i64 0] rfl ⟨.inl hRW, trivial⟩ ?_
      refine ev_seq (ev_rs [] rfl trivial (ev_cf rfl (ev_sk ?_)))
      exact ev_rs [u64s o, Vinc.bool true, Vinc.bool true] rfl (by repeat' (first | exact trivial | exact gd_t | exact gd_f | exact .inl hR | exact .inl hS | exact .inl awake12_spec | exact (fun _ => rfl) | intro _ | apply And.intro | assumption | exact rfl | exact gd_t (by assumption) | exact gd_f (by assumption) | exact gd_a (by assumption) (by assumption))) (ev_ret (ret1 (fz_p (PLe.of_eq rfl))))
    · have hF := Fit_wrong hm hb l v hz
      have hc : (wrongE p l v != 0) = true := bne_iff_ne.mpr hz
      generalize wrongE p l v = e at *
      refine ev_rs [.tup 2 (two nilS (i64 e))] rfl ⟨.inl hF, trivial⟩ ?_
      refine ev_seq (ev_rs [Vinc.bool true] rfl ⟨.inl (LawPrimeN_t hA), trivial⟩ (ev_cf rfl (ev_sk ?_)))
      refine ev_rs [i64 e] rfl ⟨.inl hRW, trivial⟩ ?_
      refine ev_seq (ev_rs [] rfl trivial (ev_ct (congrArg (fun z => AV.p (PV.val (.bool z))) hc) ?_))
      refine ev_rs [Vinc.bool true] rfl (by repeat' (first | exact trivial | exact gd_t | exact gd_f | exact .inl awake12_spec | exact (fun _ => rfl) | intro _ | apply And.intro | assumption | exact rfl | exact gd_t (by assumption) | exact gd_f (by assumption) | exact gd_a (by assumption) (by assumption))) (ev_ret (ret1 (fz_p (PLe.of_eq (congrArg Vinc.bool ?_)))))
      show (bif (bif (e == e) then true else false) then true else false) = true
      rw [beq_self_eq_true e]; rfl
  · obtain ⟨o, e, hF, hO⟩ : ∃ (o : List Nat) (e : Int), CallSpec Tryz.pr.P Tryz.pr.G 17 [u64 p, u64s l, u64s v] (.tup 2 (two (u64s o) (i64 e))) ∧ ((100000 < p ∧ p < 9223372036854775808) ∨ e = 14) := by
      rcases unasked hA with ⟨hm, hb, h1, h2⟩ | hB
      · obtain ⟨o, e, h⟩ := Fit_any hm hb l v (by omega)
        exact ⟨_, _, h, .inl ⟨h1, h2⟩⟩
      · exact ⟨[], _, callSpec_res (PLe.two2 PLe.nil (PLe.refl _)) (Fit_no hp hB l v), .inr rfl⟩
    have hOd := odd_t hO
    refine ev_rs [.tup 2 (two (u64s o) (i64 e))] rfl ⟨.inl hF, trivial⟩ ?_
    refine ev_seq (ev_rs [Vinc.bool false] rfl ⟨.inl (LawPrimeN_f hA), trivial⟩ (ev_ct rfl ?_))
    exact ev_rs [Vinc.bool true, Vinc.bool true] rfl (by repeat' (first | exact trivial | exact gd_t | exact gd_f | exact .inl hOd | exact .inl awake12_spec | exact (fun _ => rfl) | intro _ | apply And.intro | assumption | exact rfl | exact gd_t (by assumption) | exact gd_f (by assumption) | exact gd_a (by assumption) (by assumption))) (ev_ret (ret1 (fz_p (PLe.of_eq rfl))))

end Go.Proofs

/- newton, walked: its laws on sums, on what is found again, on a nil row. -/
set_option linter.unusedVariables false
namespace Go.Proofs
open Go Vinc Vinc.Num

theorem wrap_u {i : Nat} (h : i < 18446744073709551616) : IntKind.wrap .u64 (i : Int) = (i : Int) := by rw [wrapN, Nat.mod_eq_of_lt h]

set_option maxRecDepth 20000 in
theorem NewtonSums_spec (p : Nat) (l v : List Nat) (hp : p < 18446744073709551616) (hw : W64 l) : CallSpec Tryz.pr.P Tryz.pr.G 5 [u64 p, u64s l, u64s v] (Vinc.bool true) := by
  refine callSpec_of Tryz.pr Tryz.func5 rfl rfl rfl fun w0 ok0 hok hG => ?_
  refine ev_rs [] rfl trivial ?_
  refine ev_seq (ev_rs [] rfl (by repeat' (first | exact trivial | exact gd_t | exact gd_f | exact (fun _ => rfl) | intro _ | apply And.intro | assumption | exact rfl | exact gd_t (by assumption) | exact gd_f (by assumption) | exact gd_a (by assumption) (by assumption) | exact gd_b (by assumption) (by assumption))) (ev_cond rfl (fun h => ?_) (fun h => ev_sk ?_)))
  · exact ev_rs [Vinc.bool true] rfl ⟨.inl awake12_spec, trivial⟩ (ev_ret (ret1 (fz_p (PLe.refl _))))
  obtain ⟨g1, g2⟩ := or_f _ _ h
  have hl : l.length ≤ 12 := by have := of_decide_eq_false g1; omega
  have hvl : v.length ≤ 12 := by have := of_decide_eq_false g2; omega
  by_cases hA : Asked p
  · have hm := asked_may hA
    have hb := isB_asked hA
    have hf := asked_fd hA
    have hRW := RWrong_spec hm l v
    by_cases hz : wrongE p l v = 0
    · obtain ⟨hv, _, hd⟩ := wrongE_zero hz
      have hF := Sums_ok hm hb hf l v (by omega) hv hd
      have hall : ∀ m, m < l.length → rSum p (tabL (outN p l v) l.length) l m (tabL (outN p l v) l.length).length = v.getD m 0 % p := fun m hm' => by
        rw [length_tabL]
        exact sums_all hf hd (fun i hi => by rw [getD_tabL, if_pos hi]; rfl) hm'
      have hcl := length_tabL (outN p l v) l.length
      generalize tabL (outN p l v) l.length = c at *
      rw [hz] at hRW
      refine ev_rs [.tup 2 (two (u64s c) (i64 0))] rfl ⟨.inl hF, trivial⟩ ?_
      refine ev_seq (ev_rs [Vinc.bool true] rfl ⟨.inl (LawPrimeN_t hA), trivial⟩ (ev_cf rfl (ev_sk ?_)))
      refine ev_rs [i64 0] rfl ⟨.inl hRW, trivial⟩ ?_
      refine ev_seq (ev_rs [] rfl trivial (ev_cf rfl (ev_sk ?_)))
      have hc : (bif false then true else ((c.length : Int) != (l.length : Int))) = false := by rw [hcl]; exact bne_self_eq_false _
      refine ev_seq (ev_rs [] rfl (by repeat' (first | exact trivial | exact gd_t | exact gd_f | exact (fun _ => rfl) | intro _ | apply And.intro | assumption | exact rfl | exact gd_t (by assumption) | exact gd_f (by assumption) | exact gd_a (by assumption) (by assumption) | exact gd_b (by assumption) (by assumption))) (ev_cf (congrArg (fun z => AV.p (PV.val (.bool z))) hc) (ev_sk ?_)))
      refine ev_at (α := Unit) (fun _ => True) (fun _ => []) (fun _ => []) ?_ ?_
      · refine ev_rs [] rfl trivial ?_
        refine ev_block (ev_while0 (α := Nat) (fun i => i ≤ v.length) (fun i => [(0, .p (u64 p)), (1, .p (u64s l)), (2, .p (u64s v)), (7, .p (u64s c)), (10, .p (i64 i))]) (fun i => v.length - i) 0
          (Nat.zero_le _) ⟨le_0, le_0, le_0, le_0, le_0, trivial⟩ ?_)
        rintro i h1
        refine ev_seq (ev_rs [] rfl trivial (ev_cond rfl (fun h => ev_sk ?_) (fun h => ev_exit ?_)))
        · have hi : i < v.length := Int.ofNat_lt.mp (of_decide_eq_true h)
          have hS := RSum_spec hm c l i (by omega) (by omega) hw (by omega)
          rw [hall i (by omega)] at hS
          have hpz : ((p : Nat) : Int) ≠ 0 := by have := hm.1; omega
          have i0 : (0 : Int) ≤ (i : Int) := by omega
          have i1 : (i : Int) < (v.length : Int) := by omega
          have hcc : ((((v.getD i 0 % p : Nat) : Int)) != ((v.getD i 0 % p : Nat) : Int)) = false := bne_self_eq_false _
          refine ev_seq (ev_block (ev_ds [u64 (v.getD i 0 % p)] (by kernel_rfl) rfl rfl ?_ (ev_cf (congrArg (fun z => AV.p (PV.val (.bool z))) hcc) (ev_skip ?_))))
          · rw [wrap_u (by omega : i < 18446744073709551616)]
            exact (by repeat' (first | exact trivial | exact gd_t | exact gd_f | exact .inl hS | exact hpz | exact hi | exact i0 | exact i1 | exact (fun _ => rfl) | intro _ | apply And.intro | assumption | exact rfl | exact gd_t (by assumption) | exact gd_f (by assumption) | exact gd_a (by assumption) (by assumption) | exact gd_b (by assumption) (by assumption)))
          exact ev_region [] rfl trivial (round0 (i + 1) hi (by omega) ⟨le_0, le_0, le_0, le_0, le_e (congrArg (fun z => PV.val (.int .i64 z)) (wrapI _ (by omega) (by omega))), trivial⟩)
        · exact at0 () trivial trivial
      rintro ⟨⟩ -
      exact ev_rs [Vinc.bool true] rfl ⟨.inl awake12_spec, trivial⟩ (ev_ret (ret1 (fz_p (PLe.refl _))))
    · have hF := Sums_wrong hm hb l v hz
      have hc : (wrongE p l v != 0) = true := bne_iff_ne.mpr hz
      generalize wrongE p l v = e at *
      refine ev_rs [.tup 2 (two nilS (i64 e))] rfl ⟨.inl hF, trivial⟩ ?_
      refine ev_seq (ev_rs [Vinc.bool true] rfl ⟨.inl (LawPrimeN_t hA), trivial⟩ (ev_cf rfl (ev_sk ?_)))
      refine ev_rs [i64 e] rfl ⟨.inl hRW, trivial⟩ ?_
      refine ev_seq (ev_rs [] rfl trivial (ev_ct (congrArg (fun z => AV.p (PV.val (.bool z))) hc) ?_))
      refine ev_rs [Vinc.bool true] rfl (by repeat' (first | exact trivial | exact gd_t | exact gd_f | exact .inl awake12_spec | exact (fun _ => rfl) | intro _ | apply And.intro | assumption | exact rfl | exact gd_t (by assumption) | exact gd_f (by assumption) | exact gd_a (by assumption) (by assumption) | exact gd_b (by assumption) (by assumption))) (ev_ret (ret1 (fz_p (PLe.of_eq (congrArg Vinc.bool ?_)))))
      show (bif (bif (e == e) then true else false) then true else false) = true
      rw [beq_self_eq_true e]; rfl
  · obtain ⟨o, e, hF, hO⟩ : ∃ (o : List Nat) (e : Int), CallSpec Tryz.pr.P Tryz.pr.G 20 [u64 p, u64s l, u64s v] (.tup 2 (two (u64s o) (i64 e))) ∧ ((100000 < p ∧ p < 9223372036854775808) ∨ e = 14) := by
      rcases unasked hA with ⟨hm, hb, h1, h2⟩ | hB
      · obtain ⟨o, e, h⟩ := Sums_any hm hb l v (by omega)
        exact ⟨_, _, h, .inl ⟨h1, h2⟩⟩
      · exact ⟨[], _, callSpec_res (PLe.two2 PLe.nil (PLe.refl _)) (Sums_no hp hB l v), .inr rfl⟩
    have hOd := odd_t hO
    refine ev_rs [.tup 2 (two (u64s o) (i64 e))] rfl ⟨.inl hF, trivial⟩ ?_
    refine ev_seq (ev_rs [Vinc.bool false] rfl ⟨.inl (LawPrimeN_f hA), trivial⟩ (ev_ct rfl ?_))
    exact ev_rs [Vinc.bool true, Vinc.bool true] rfl (by repeat' (first | exact trivial | exact gd_t | exact gd_f | exact .inl hOd | exact .inl awake12_spec | exact (fun _ => rfl) | intro _ | apply And.intro | assumption | exact rfl | exact gd_t (by assumption) | exact gd_f (by assumption) | exact gd_a (by assumption) (by assumption) | exact gd_b (by assumption) (by assumption))) (ev_ret (ret1 (fz_p (PLe.of_eq rfl))))

theorem and_nt : ∀ a b : Bool, (bif a then true else !b) = false → a = false ∧ b = true := by decide

set_option maxRecDepth 20000 in
theorem NewtonBack_spec (p : Nat) (a l : List Nat) (hp : p < 18446744073709551616) : CallSpec Tryz.pr.P Tryz.pr.G 6 [u64 p, u64s a, u64s l] (Vinc.bool true) := by
  refine callSpec_of Tryz.pr Tryz.func6 rfl rfl rfl fun w0 ok0 hok hG => ?_
  refine ev_rs [] rfl trivial ?_
  by_cases hA : Asked p
  · have hm := asked_may hA
    have hb := isB_asked hA
    have hf := asked_fd hA
    have hp0 := hf.pos
    refine ev_seq (ev_rs [Vinc.bool true] rfl (by repeat' (first | exact trivial | exact gd_t | exact gd_f | exact .inl (LawPrimeN_t hA) | exact (fun _ => rfl) | intro _ | apply And.intro | assumption | exact rfl | exact gd_t (by assumption) | exact gd_f (by assumption) | exact gd_a (by assumption) (by assumption) | exact gd_b (by assumption) (by assumption))) (ev_cond rfl (fun h => ?_) (fun h => ev_sk ?_)))
    · exact ev_rs [Vinc.bool true] rfl ⟨.inl awake12_spec, trivial⟩ (ev_ret (ret1 (fz_p (PLe.refl _))))
    obtain ⟨g0, _⟩ := and_nt _ _ h
    obtain ⟨g1, g2⟩ := or_f _ _ g0
    have ha : a.length ≤ 50 := by have := of_decide_eq_false g1; omega
    have hl : l.length ≤ 50 := by have := of_decide_eq_false g2; omega
    have hN := RNorm_spec hm a (by omega)
    have hV := Values_ok hm hb a l (by omega) (by omega)
    obtain ⟨v, hv⟩ : ∃ v, (l.map fun x => evalN p x a) = v := ⟨_, rfl⟩
    have hvl : l.length = v.length := by rw [← hv, List.length_map]
    have hvi : ∀ i, i < l.length → v.getD i 0 = evalN p (l.getD i 0) a := fun i hi => by
      rw [← hv]
      simp [List.getD_eq_getElem?_getD, List.getElem?_eq_getElem hi]
    rw [hv] at hV
    have hc1 : ((v.length : Int) != (l.length : Int)) = false := by rw [hvl]; exact bne_self_eq_false _
    refine ev_rs [u64s (normN p a)] rfl ⟨.inl hN, trivial⟩ ?_
    refine ev_rs [.tup 2 (two (u64s v) (i64 0))] rfl ⟨.inl hV, trivial⟩ ?_
    by_cases hd : Dist p l
    · have hF := Fit_ok hm hb hf l v (by omega) hvl hd
      have hr := rowM_ok hf hvl.symm hd l.length (Nat.le_refl _)
      rw [List.take_length, List.take_of_length_le (by omega)] at hr
      obtain ⟨b, hbb⟩ : ∃ b, (rowM p l v l.length).now = b := ⟨_, rfl⟩
      rw [hbb] at hF
      have hbz : Nz p b := hbb ▸ hr.nz
      have hbl : b.length ≤ l.length := hbb ▸ hr.len
      have hbv : ∀ i, i < l.length → cg p (ev (l.getD i 0) b) ((v.getD i 0 : Nat) : Int) := hbb ▸ hr.val
      have hnb : (normN p a).length ≤ l.length → normN p a = b := fun hle => by
        rw [← hbb]
        refine hr.unique hf (Nz.norm hp0 a) hle fun i hi => ?_
        rw [hvi i hi]
        exact (ev_norm _ a).trans (evalN_cg _ a).symm
      have hV2 := Values_ok hm hb b l (by omega) (by omega)
      have hv2 : (l.map fun x => evalN p x b) = v := by
        refine list_eq (by rw [List.length_map, hvl]) fun j hj => ?_
        rw [List.length_map] at hj
        have e : (l.map fun x => evalN p x b).getD j 0 = evalN p (l.getD j 0) b := by
          simp [List.getD_eq_getElem?_getD, List.getElem?_eq_getElem hj]
        rw [e, hvi j hj]
        refine evalN_eq hp0 ((hbv j hj).trans ?_)
        rw [hvi j hj]
        exact evalN_cg _ a
      rw [hv2] at hV2
      have hS := same_t v (by omega)
      have lna := normN_len p a
      refine ev_rs [.tup 2 (two (u64s b) (i64 0))] rfl ⟨.inl hF, trivial⟩ ?_
      refine ev_seq (ev_rs [] rfl (by repeat' (first | exact trivial | exact gd_t | exact gd_f | exact (fun _ => rfl) | intro _ | apply And.intro | assumption | exact rfl | exact gd_t (by assumption) | exact gd_f (by assumption) | exact gd_a (by assumption) (by assumption) | exact gd_b (by assumption) (by assumption))) (ev_cf (congrArg (fun z => AV.p (PV.val (.bool z))) hc1) (ev_sk ?_)))
      refine ev_seq (ev_rs [] rfl trivial (ev_cf rfl (ev_sk ?_)))
      refine ev_rs [.tup 2 (two (u64s v) (i64 0))] rfl ⟨.inl hV2, trivial⟩ ?_
      have hle : decide ((b.length : Int) ≤ (l.length : Int)) = true := decide_eq_true (by omega)
      by_cases hlen : (normN p a).length ≤ l.length
      · have e := hnb hlen
        rw [e] at lna hlen ⊢
        have hS2 := same_t b (by omega)
        refine ev_rs [Vinc.bool true, Vinc.bool true, Vinc.bool true] rfl (by repeat' (first | exact trivial | exact gd_t | exact gd_f | exact .inl hS | exact .inl hS2 | exact .inl awake12_spec | exact (fun _ => rfl) | intro _ | apply And.intro | assumption | exact rfl | exact gd_t (by assumption) | exact gd_f (by assumption) | exact gd_a (by assumption) (by assumption) | exact gd_b (by assumption) (by assumption))) (ev_ret (ret1 (fz_p (PLe.of_eq (congrArg Vinc.bool ?_)))))
        have hgt : decide ((b.length : Int) > (l.length : Int)) = false := decide_eq_false (by omega)
        show (bif (bif (bif (bif true then true else false) then decide ((b.length : Int) ≤ (l.length : Int)) else false) then (bif decide ((b.length : Int) > (l.length : Int)) then true else true) else false) then true else false) = true
        rw [hle, hgt]; rfl
      · have hgt : decide ((((normN p a).length : Nat) : Int) > (l.length : Int)) = true := decide_eq_true (by omega)
        have hSn := Same_spec b (normN p a) (by omega) (by omega)
        refine ev_rs [Vinc.bool true, Vinc.bool (decide (b = normN p a)), Vinc.bool true] rfl (by repeat' (first | exact trivial | exact gd_t | exact gd_f | exact .inl hS | exact .inl hSn | exact .inl awake12_spec | exact (fun _ => rfl) | intro _ | apply And.intro | assumption | exact rfl | exact gd_t (by assumption) | exact gd_f (by assumption) | exact gd_a (by assumption) (by assumption) | exact gd_b (by assumption) (by assumption))) (ev_ret (ret1 (fz_p (PLe.of_eq (congrArg Vinc.bool ?_)))))
        show (bif (bif (bif (bif true then true else false) then decide ((b.length : Int) ≤ (l.length : Int)) else false) then (bif decide ((((normN p a).length : Nat) : Int) > (l.length : Int)) then true else decide (b = normN p a)) else false) then true else false) = true
        rw [hle, hgt]; rfl
    · have hz : wrongE p l v ≠ 0 := fun h => hd (wrongE_zero h).2.2
      have hF := Fit_wrong hm hb l v hz
      rw [wrongE_same hz hvl (by omega)] at hF
      refine ev_rs [.tup 2 (two nilS (i64 11))] rfl ⟨.inl hF, trivial⟩ ?_
      refine ev_seq (ev_rs [] rfl (by repeat' (first | exact trivial | exact gd_t | exact gd_f | exact (fun _ => rfl) | intro _ | apply And.intro | assumption | exact rfl | exact gd_t (by assumption) | exact gd_f (by assumption) | exact gd_a (by assumption) (by assumption) | exact gd_b (by assumption) (by assumption))) (ev_cf (congrArg (fun z => AV.p (PV.val (.bool z))) hc1) (ev_sk ?_)))
      refine ev_seq (ev_rs [] rfl trivial (ev_ct rfl ?_))
      exact ev_rs [Vinc.bool true] rfl (by repeat' (first | exact trivial | exact gd_t | exact gd_f | exact .inl awake12_spec | exact (fun _ => rfl) | intro _ | apply And.intro | assumption | exact rfl | exact gd_t (by assumption) | exact gd_f (by assumption) | exact gd_a (by assumption) (by assumption) | exact gd_b (by assumption) (by assumption))) (ev_ret (ret1 (fz_p (PLe.of_eq rfl))))
  · refine ev_seq (ev_rs [Vinc.bool false] rfl (by repeat' (first | exact trivial | exact gd_t | exact gd_f | exact .inl (LawPrimeN_f hA) | exact (fun _ => rfl) | intro _ | apply And.intro | assumption | exact rfl | exact gd_t (by assumption) | exact gd_f (by assumption) | exact gd_a (by assumption) (by assumption) | exact gd_b (by assumption) (by assumption))) (ev_cond rfl (fun h => ?_) (fun h => ?_)))
    · exact ev_rs [Vinc.bool true] rfl ⟨.inl awake12_spec, trivial⟩ (ev_ret (ret1 (fz_p (PLe.refl _))))
    · obtain ⟨_, g⟩ := and_nt _ _ h
      cases g

theorem Add_nilrow (x y : Nat) : CallSpec Tryz.pr.P Tryz.pr.G 24 [nilP, u64 x, u64 y] (.tup 2 (two (Vinc.bool false) (i64 2))) := by
  refine callSpec_of Tryz.pr Tryz.func24 rfl rfl rfl fun w0 ok0 hok hG => ?_
  refine ev_rs [] rfl trivial ?_
  refine ev_seq (ev_rs [] rfl trivial (ev_ct rfl ?_))
  exact ev_rs [] rfl trivial (ev_ret (ret2 (fz_p (PLe.refl _)) (fz_p (PLe.refl _))))

theorem Len_nilrow : CallSpec Tryz.pr.P Tryz.pr.G 26 [nilP] (i64 0) := by
  refine callSpec_of Tryz.pr Tryz.func26 rfl rfl rfl fun w0 ok0 hok hG => ?_
  refine ev_rs [] rfl trivial ?_
  refine ev_seq (ev_rs [] rfl trivial (ev_ct rfl ?_))
  exact ev_rs [] rfl trivial (ev_ret (ret1 (fz_p (PLe.refl _))))

theorem Poly_nilrow : CallSpec Tryz.pr.P Tryz.pr.G 27 [nilP] nilS := by
  refine callSpec_of Tryz.pr Tryz.func27 rfl rfl rfl fun w0 ok0 hok hG => ?_
  refine ev_rs [] rfl trivial ?_
  refine ev_seq (ev_rs [] rfl trivial (ev_ct rfl ?_))
  exact ev_rs [] rfl trivial (ev_ret (ret1 (fz_p (PLe.refl _))))

set_option maxRecDepth 20000 in
theorem NewtonNil_spec (x y : Nat) : CallSpec Tryz.pr.P Tryz.pr.G 10 [u64 x, u64 y] (Vinc.bool true) := by
  refine callSpec_of Tryz.pr Tryz.func10 rfl rfl rfl fun w0 ok0 hok hG => ?_
  refine ev_rs [] rfl trivial ?_
  refine ev_rs [] rfl trivial ?_
  refine ev_rs [.tup 2 (two (Vinc.bool false) (i64 2))] rfl ⟨.inl (Add_nilrow x y), trivial⟩ ?_
  exact ev_rs [nilS, i64 0, Vinc.bool true] rfl (by repeat' (first | exact trivial | exact gd_t | exact gd_f | exact .inl Poly_nilrow | exact .inl Len_nilrow | exact .inl awake12_spec | exact (fun _ => rfl) | intro _ | apply And.intro | assumption | exact rfl | exact gd_t (by assumption) | exact gd_f (by assumption) | exact gd_a (by assumption) (by assumption) | exact gd_b (by assumption) (by assumption))) (ev_ret (ret1 (fz_p (PLe.of_eq rfl))))

set_option maxRecDepth 20000 in
theorem NewtonPowers_spec (p : Nat) (c l : List Nat) (hp : p < 18446744073709551616) (hw : W64 l) : CallSpec Tryz.pr.P Tryz.pr.G 7 [u64 p, u64s c, u64s l] (Vinc.bool true) := by
  refine callSpec_of Tryz.pr Tryz.func7 rfl rfl rfl fun w0 ok0 hok hG => ?_
  refine ev_rs [] rfl trivial ?_
  by_cases hA : Asked p
  · have hm := asked_may hA
    have hb := isB_asked hA
    have hf := asked_fd hA
    have hp0 := hf.pos
    refine ev_seq (ev_rs [Vinc.bool true] rfl (by repeat' (first | exact trivial | exact gd_t | exact gd_f | exact .inl (LawPrimeN_t hA) | exact (fun _ => rfl) | intro _ | apply And.intro | assumption | exact rfl | exact gd_t (by assumption) | exact gd_f (by assumption) | exact gd_a (by assumption) (by assumption) | exact gd_b (by assumption) (by assumption))) (ev_cond rfl (fun h => ?_) (fun h => ev_sk ?_)))
    · exact ev_rs [Vinc.bool true] rfl ⟨.inl awake12_spec, trivial⟩ (ev_ret (ret1 (fz_p (PLe.refl _))))
    obtain ⟨g0, _⟩ := and_nt _ _ h
    obtain ⟨g1, g2⟩ := or_f _ _ g0
    have hc10 : c.length ≤ 10 := by have := of_decide_eq_false g1; omega
    have hcl : c.length = l.length := Int.ofNat_inj.mp (Classical.byContradiction fun h => by rw [bne_iff_ne.mpr h] at g2; cases g2)
    obtain ⟨f, hfd⟩ : ∃ f : Nat → Nat, f = fun m => rSum p c l m c.length := ⟨_, rfl⟩
    refine ev_rs [] rfl trivial (ev_nilown 7 7 rfl rfl ?_)
    refine ev_at (α := Unit) (fun _ => True) (fun _ => [(0, .p (u64 p)), (1, .p (u64s c)), (2, .p (u64s l)), (7, .p (u64s (tabL f l.length)))]) (fun _ => []) ?_ ?_
    · refine ev_rs [] rfl trivial ?_
      refine ev_block (ev_while (α := Nat) (fun i => i ≤ l.length) (fun i => [(0, .p (u64 p)), (1, .p (u64s c)), (2, .p (u64s l)), (7, .own 7 0 i 1), (8, .p (i64 i))]) (fun i => [(7, ob64 (tabL f i))]) (fun i => l.length - i) 0
        (Nat.zero_le _) (wk_ob rfl (fun hd => ⟨le_refl hd _, le_refl hd _, le_refl hd _, le_o rfl, le_refl hd _, trivial⟩)) ?_)
      rintro i h1
      refine ev_seq (ev_rs [] rfl trivial (ev_cond rfl (fun h => ev_sk ?_) (fun h => ev_exit ?_)))
      · have hi : i < l.length := Int.ofNat_lt.mp (of_decide_eq_true h)
        have htl := length_tabL f i
        have hfi : f i = rSum p c l i c.length := by rw [hfd]
        have hS := RSum_spec hm c l i (by omega) (by omega) hw (by omega)
        rw [← hfi] at hS
        refine ev_seq (ev_block ?_)
        refine ev_region [u64 (f i)] rfl ?_ (ev_app 7 42 (tabL f i) [f i] rfl rfl (by rw [htl]; rfl) (by show i + 1 = _; rw [htl]; rfl) htl.symm (fun j hj => rfl) (fun j hj => ?_) ?_)
        · rw [wrap_u (by omega : i < 18446744073709551616)]
          exact ⟨⟨by omega, htl, Nat.le_refl 1⟩, .inl hS, trivial⟩
        · match j, hj with
          | 0, _ => rfl
        have hst : tabL f i ++ [f i] = tabL f (i + 1) := (tabL_snoc f i).symm
        exact ev_region [] rfl trivial ⟨i + 1, by omega, by dsimp only; omega, wk_ren (i' := 42) (congrArg (fun l => some (ob64 l)) hst) (fun hd => ⟨le_refl hd _, le_refl hd _, le_refl hd _, le_ren rfl (by rw [hst, length_tabL]), le_n hd (congrArg (fun z => PV.val (.int .i64 z)) (wrapI _ (by omega) (by omega))), trivial⟩)⟩
      · have hi : i = l.length := by
          have := of_decide_eq_false h
          omega
        subst hi
        exact at0 () trivial ⟨le_0, le_0, le_0, le_fz' rfl (length_tabL f l.length).symm rfl, trivial⟩
    rintro ⟨⟩ -
    have hvl := length_tabL f l.length
    have hvm : ∀ m, m < l.length → (tabL f l.length).getD m 0 = rSum p c l m l.length := fun m hm' => by
      rw [getD_tabL, if_pos hm', hfd, hcl]
    generalize tabL f l.length = v at *
    by_cases hd : Dist p l
    · have hF := Sums_ok hm hb hf l v (by omega) hvl.symm hd
      have hol := length_tabL (outN p l v) l.length
      have hoi : ∀ i, i < l.length → (tabL (outN p l v) l.length).getD i 0 = c.getD i 0 % p := fun i hi => by
        rw [getD_tabL, if_pos hi]
        exact powers_all hf hd hvm hi
      generalize tabL (outN p l v) l.length = o at *
      refine ev_rs [.tup 2 (two (u64s o) (i64 0))] rfl ⟨.inl hF, trivial⟩ ?_
      refine ev_seq (ev_rs [] rfl trivial (ev_cf rfl (ev_sk ?_)))
      refine ev_at (α := Unit) (fun _ => True) (fun _ => [(1, .p (u64s c)), (9, .p (u64s o))]) (fun _ => []) ?_ ?_
      · refine ev_rs [] rfl trivial ?_
        refine ev_block (ev_while0 (α := Nat) (fun i => i ≤ c.length) (fun i => [(0, .p (u64 p)), (1, .p (u64s c)), (9, .p (u64s o)), (11, .p (i64 i))]) (fun i => c.length - i) 0
          (Nat.zero_le _) ⟨le_0, le_0, le_0, le_0, trivial⟩ ?_)
        rintro i h1
        refine ev_seq (ev_rs [] rfl trivial (ev_cond rfl (fun h => ev_sk ?_) (fun h => ev_exit ?_)))
        · have hi : i < c.length := Int.ofNat_lt.mp (of_decide_eq_true h)
          have hio : i < o.length := by omega
          have hpz : ((p : Nat) : Int) ≠ 0 := by have := hm.1; omega
          have i0 : (0 : Int) ≤ (i : Int) := by omega
          have i1 : (i : Int) < (c.length : Int) := by omega
          have i2 : (i : Int) < (o.length : Int) := by omega
          have hcc : (bif decide ((i : Int) ≥ (o.length : Int)) then true else (((o.getD i 0 : Nat) : Int) != (((c.getD i 0 : Nat) : Int).tmod (p : Int)))) = false := by
            rw [decide_eq_false (by omega), hoi i (by omega)]
            exact bne_self_eq_false _
          refine ev_seq (ev_block (ev_ds [] (by kernel_rfl) rfl rfl ?_ (ev_cf (congrArg (fun z => AV.p (PV.val (.bool z))) hcc) (ev_skip ?_))))
          · exact (by repeat' (first | exact trivial | exact gd_t | exact gd_f | exact hpz | exact hi | exact hio | exact i0 | exact i1 | exact i2 | exact (fun _ => rfl) | intro _ | apply And.intro | assumption | exact rfl | exact gd_t (by assumption) | exact gd_f (by assumption) | exact gd_a (by assumption) (by assumption) | exact gd_b (by assumption) (by assumption)))
          exact ev_region [] rfl trivial (round0 (i + 1) hi (by omega) ⟨le_0, le_0, le_0, le_e (congrArg (fun z => PV.val (.int .i64 z)) (wrapI _ (by omega) (by omega))), trivial⟩)
        · exact at0 () trivial ⟨le_0, le_0, trivial⟩
      rintro ⟨⟩ -
      refine ev_rs [Vinc.bool true] rfl (by repeat' (first | exact trivial | exact gd_t | exact gd_f | exact .inl awake12_spec | exact (fun _ => rfl) | intro _ | apply And.intro | assumption | exact rfl | exact gd_t (by assumption) | exact gd_f (by assumption) | exact gd_a (by assumption) (by assumption) | exact gd_b (by assumption) (by assumption))) (ev_ret (ret1 (fz_p (PLe.of_eq (congrArg Vinc.bool ?_)))))
      show (bif ((o.length : Int) == (c.length : Int)) then true else false) = true
      rw [show o.length = c.length by omega, beq_self_eq_true]; rfl
    · have hz : wrongE p l v ≠ 0 := fun h => hd (wrongE_zero h).2.2
      have hF := Sums_wrong hm hb l v hz
      rw [wrongE_same hz hvl.symm (by omega)] at hF
      refine ev_rs [.tup 2 (two nilS (i64 11))] rfl ⟨.inl hF, trivial⟩ ?_
      refine ev_seq (ev_rs [] rfl trivial (ev_ct rfl ?_))
      exact ev_rs [Vinc.bool true] rfl (by repeat' (first | exact trivial | exact gd_t | exact gd_f | exact .inl awake12_spec | exact (fun _ => rfl) | intro _ | apply And.intro | assumption | exact rfl | exact gd_t (by assumption) | exact gd_f (by assumption) | exact gd_a (by assumption) (by assumption) | exact gd_b (by assumption) (by assumption))) (ev_ret (ret1 (fz_p (PLe.of_eq rfl))))
  · refine ev_seq (ev_rs [Vinc.bool false] rfl (by repeat' (first | exact trivial | exact gd_t | exact gd_f | exact .inl (LawPrimeN_f hA) | exact (fun _ => rfl) | intro _ | apply And.intro | assumption | exact rfl | exact gd_t (by assumption) | exact gd_f (by assumption) | exact gd_a (by assumption) (by assumption) | exact gd_b (by assumption) (by assumption))) (ev_cond rfl (fun h => ?_) (fun h => ?_)))
    · exact ev_rs [Vinc.bool true] rfl ⟨.inl awake12_spec, trivial⟩ (ev_ret (ret1 (fz_p (PLe.refl _))))
    · obtain ⟨_, g⟩ := and_nt _ _ h
      cases g

end Go.Proofs

/- The reference's sums of polynomials, walked: results that the caller may write. -/
set_option linter.unusedVariables false
namespace Go.Proofs
open Go Vinc Vinc.Num

theorem RNormO_spec {p : Nat} (hm : MayM p) (a : List Nat) (hl : a.length < 1000000) : CallSpecO Tryz.pr.P Tryz.pr.G 22 [u64s a, u64 p] (normN p a).length 1 (fun j => u64 ((normN p a).getD j 0)) := by
  have hp0 := hm.1
  obtain ⟨ms, hms⟩ : ∃ ms, a.map (· % p) = ms := ⟨_, rfl⟩
  have hml : ms.length = a.length := by rw [← hms, List.length_map]
  obtain ⟨f, hf⟩ : ∃ f : Nat → Nat, f = fun i => a.getD i 0 % p := ⟨_, rfl⟩
  have hall : tabL f a.length = ms := by rw [hf, tabL_map, hms]
  have hN : normN p a = ms.take (trimL ms ms.length) := by unfold normN trimN; rw [hms]
  rw [hN]
  have ht := trimL_le ms ms.length
  refine callSpecO_of Tryz.pr Tryz.func22 rfl rfl rfl fun w0 ok0 hok hG => ?_
  refine ev_rs [] rfl trivial ?_
  refine ev_rs [] rfl trivial (ev_nilown 5 5 rfl rfl ?_)
  refine ev_at (α := Unit) (fun _ => True) (fun _ => [(5, .own 5 0 ms.length 1)]) (fun _ => [(5, ob64 ms)]) ?_ ?_
  · refine ev_rs [] rfl trivial ?_
    refine ev_block (ev_while (α := Nat) (fun i => i ≤ a.length) (fun i => [(0, .p (u64s a)), (1, .p (u64 p)), (5, .own 5 0 i 1), (6, .p (i64 i))]) (fun i => [(5, ob64 (tabL f i))]) (fun i => a.length - i) 0
      (Nat.zero_le _) (wk_ob rfl (fun hd => ⟨le_refl hd _, le_refl hd _, le_o rfl, le_refl hd _, trivial⟩)) ?_)
    rintro i h1
    refine ev_seq (ev_rs [] rfl trivial (ev_cond rfl (fun h => ev_sk ?_) (fun h => ev_exit ?_)))
    · have hi : i < a.length := Int.ofNat_lt.mp (of_decide_eq_true h)
      have htl := length_tabL f i
      have hfi : f i = a.getD i 0 % p := by rw [hf]
      refine ev_seq (ev_block ?_)
      refine ev_region [] rfl ?_ (ev_app 5 21 (tabL f i) [f i] rfl rfl (by rw [htl]; rfl) (by show i + 1 = _; rw [htl]; rfl) htl.symm (fun j hj => rfl) (fun j hj => ?_) ?_)
      · exact ⟨⟨by omega, htl, Nat.le_refl 1⟩, by simp; omega, hi, ⟨by omega, by omega⟩, trivial⟩
      · match j, hj with
        | 0, _ => rw [hfi]; rfl
      have hst : tabL f i ++ [f i] = tabL f (i + 1) := (tabL_snoc f i).symm
      exact ev_region [] rfl trivial ⟨i + 1, hi, by dsimp only; omega, wk_ren (i' := 21) (congrArg (fun l => some (ob64 l)) hst) (fun hd => ⟨le_refl hd _, le_refl hd _, le_ren rfl (by rw [hst, length_tabL]), le_n hd (congrArg (fun z => PV.val (.int .i64 z)) (wrapI _ (by omega) (by omega))), trivial⟩)⟩
    · have hi : i = a.length := by
        have := of_decide_eq_false h
        omega
      subst hi
      refine at_ob (xs := fun _ => ms) () trivial (congrArg (fun l => some (ob64 l)) hall) (fun hd => ⟨?_, trivial⟩)
      rw [hml]
      exact le_o rfl
  rintro ⟨⟩ -
  refine ev_at (α := Unit) (fun _ => True) (fun _ => [(5, .own 5 0 (trimL ms ms.length) 1)]) (fun _ => [(5, ob64 ms)]) ?_ ?_
  · refine ev_block (ev_while (α := Nat) (fun n => n ≤ ms.length ∧ trimL ms n = trimL ms ms.length) (fun n => [(5, .own 5 0 n 1)]) (fun n => [(5, ob64 ms)]) (fun n => n) ms.length ⟨Nat.le_refl _, rfl⟩ (wk_ob rfl (fun hd => ⟨le_o rfl, trivial⟩)) ?_)
    rintro n ⟨h1, h2⟩
    cases n with
    | zero =>
      refine ev_seq (ev_rs [] rfl (by repeat' (first | exact trivial | exact gd_t | exact gd_f | exact fun h => absurd h (by decide) | exact (fun _ => rfl) | intro _ | apply And.intro | assumption | exact rfl | exact gd_t (by assumption) | exact gd_f (by assumption) | exact gd_a (by assumption) (by assumption) | exact gd_b (by assumption) (by assumption))) (ev_cf rfl (ev_exit (at_ob (xs := fun _ => ms) () trivial rfl (fun hd => ⟨?_, trivial⟩)))))
      rw [← h2]
      exact le_o rfl
    | succ n =>
      have e1 : IntKind.wrap .i64 (((n + 1 : Nat) : Int) - 1) = (n : Int) := by rw [wrapI _ (by omega) (by omega)]; omega
      have hpos : decide (((n + 1 : Nat) : Int) > 0) = true := decide_eq_true (by omega)
      have hn1 : n < n + 1 := Nat.lt_succ_self n
      have hn2 : n < ms.length := by omega
      refine ev_seq (ev_rs [] rfl ?_ (ev_cond rfl (fun h => ev_sk ?_) (fun h => ev_exit ?_)))
      · rw [e1]
        exact (by repeat' (first | exact trivial | exact gd_t | exact gd_f | exact hn1 | exact hn2 | exact Int.natCast_nonneg _ | exact Int.ofNat_lt.mpr hn1 | exact (fun _ => rfl) | intro _ | apply And.intro | assumption | exact rfl | exact gd_t (by assumption) | exact gd_f (by assumption) | exact gd_a (by assumption) (by assumption) | exact gd_b (by assumption) (by assumption)))
      · rw [hpos, e1] at h
        have h0 : ms.getD n 0 = 0 := Int.ofNat_inj.mp (beq_iff_eq.mp h)
        refine ev_block (ev_region [] rfl ?_ ⟨n, ⟨by omega, ?_⟩, Nat.lt_succ_self n, wk_ob rfl (fun hd => ⟨?_, trivial⟩)⟩)
        · rw [e1]
          exact ⟨⟨by omega, by omega⟩, trivial⟩
        · rw [← h2]
          show _ = if ms.getD n 0 = 0 then trimL ms n else n + 1
          rw [if_pos h0]
        · show Le _ _ _ _ (.own 5 0 (IntKind.wrap .i64 (((n + 1 : Nat) : Int) - 1)).toNat 1) _
          rw [e1]
          exact le_o rfl
      · rw [hpos, e1] at h
        have h0 : ¬ ms.getD n 0 = 0 := fun e => (beq_eq_false_iff_ne.mp h) (Int.ofNat_inj.mpr e)
        have h3 : trimL ms ms.length = n + 1 := by
          rw [← h2]
          show (if ms.getD n 0 = 0 then trimL ms n else n + 1) = _
          rw [if_neg h0]
        refine at_ob (xs := fun _ => ms) () trivial rfl (fun hd => ⟨?_, trivial⟩)
        rw [h3]
        exact le_o rfl
  rintro ⟨⟩ -
  refine ev_rs [] rfl trivial (ev_ret (.inr ⟨_, 5, _, rfl, ?_, rfl, ?_, fun j hj => ⟨_, rfl, ?_⟩⟩))
  · show AV.own 5 0 (trimL ms ms.length) 1 = AV.own 5 0 (ms.take (trimL ms ms.length)).length 1
    rw [List.length_take, Nat.min_eq_left ht]
  · show (ms.take (trimL ms ms.length)).length * 1 ≤ ms.length
    rw [List.length_take]
    omega
  · have hj : j < (ms.take (trimL ms ms.length)).length := by omega
    rw [List.length_take] at hj
    refine congrArg (fun n : Nat => u64 n) ?_
    rw [List.getD_eq_getElem?_getD, List.getD_eq_getElem?_getD, List.getElem?_take_of_lt (by omega)]

theorem RAddO_spec {p : Nat} (hm : MayM p) (a b : List Nat) (hl : a.length < 100000) (hl2 : b.length < 100000) : CallSpecO Tryz.pr.P Tryz.pr.G 32 [u64s a, u64s b, u64 p] (rAdd p a b).length 1 (fun j => u64 ((rAdd p a b).getD j 0)) := by
  obtain ⟨L, hL⟩ : ∃ L, max a.length b.length = L := ⟨_, rfl⟩
  obtain ⟨f, hf⟩ : ∃ f : Nat → Nat, f = fun j => (a.getD j 0 + b.getD j 0) % p := ⟨_, rfl⟩
  have hall : tabL f L = addL p a b := by rw [hf, ← hL]; rfl
  refine callSpecO_of Tryz.pr Tryz.func32 rfl rfl rfl fun w0 ok0 hok hG => ?_
  refine ev_rs [] rfl trivial ?_
  refine ev_rs [] rfl trivial (ev_nilown 7 7 rfl rfl ?_)
  refine ev_at (α := Unit) (fun _ => True) (fun _ => [(2, .p (u64 p)), (7, .p (u64s (addL p a b)))]) (fun _ => []) ?_ ?_
  · refine ev_rs [] rfl trivial ?_
    refine ev_block (ev_while (α := Nat) (fun i => i ≤ L) (fun i => [(0, .p (u64s a)), (1, .p (u64s b)), (2, .p (u64 p)), (7, .own 7 0 i 1), (8, .p (i64 i))]) (fun i => [(7, ob64 (tabL f i))]) (fun i => L - i) 0
      (Nat.zero_le _) (wk_ob rfl (fun hd => ⟨le_refl hd _, le_refl hd _, le_refl hd _, le_o rfl, le_refl hd _, trivial⟩)) ?_)
    rintro i h1
    refine ev_seq (ev_rs [] rfl (by repeat' (first | exact trivial | exact gd_t | exact gd_f | exact (fun _ => rfl) | intro _ | apply And.intro | assumption | exact rfl | exact gd_t (by assumption) | exact gd_f (by assumption) | exact gd_a (by assumption) (by assumption) | exact gd_b (by assumption) (by assumption))) (ev_cond rfl (fun h => ev_sk ?_) (fun h => ev_exit ?_)))
    · have hi : i < L := by
        rcases Nat.lt_or_ge i L with h2 | h2
        · exact h2
        · rw [decide_eq_false (by omega), decide_eq_false (by omega)] at h
          cases h
      have htl := length_tabL f i
      have hfi : f i = (a.getD i 0 + b.getD i 0) % p := by rw [hf]
      refine ev_seq (ev_block ?_)
      refine ev_region [u64 (a.getD i 0), u64 (b.getD i 0), u64 (f i)] rfl ?_ (ev_app 7 31 (tabL f i) [f i] rfl rfl (by rw [htl]; rfl) (by show i + 1 = _; rw [htl]; rfl) htl.symm (fun j hj => rfl) (fun j hj => ?_) ?_)
      · rw [hfi]
        exact ⟨⟨by omega, htl, Nat.le_refl 1⟩, .inl (RefAdd_spec hm _ _), .inl (coeff_spec b i), .inl (coeff_spec a i), trivial⟩
      · match j, hj with
        | 0, _ => rfl
      have hst : tabL f i ++ [f i] = tabL f (i + 1) := (tabL_snoc f i).symm
      exact ev_region [] rfl trivial ⟨i + 1, hi, by dsimp only; omega, wk_ren (i' := 31) (congrArg (fun l => some (ob64 l)) hst) (fun hd => ⟨le_refl hd _, le_refl hd _, le_refl hd _, le_ren rfl (by rw [hst, length_tabL]), le_n hd (congrArg (fun z => PV.val (.int .i64 z)) (wrapI _ (by omega) (by omega))), trivial⟩)⟩
    · have hi : i = L := by
        rcases Nat.lt_or_ge i L with h2 | h2
        · exfalso
          by_cases h3 : i < a.length
          · rw [decide_eq_true (Int.ofNat_lt.mpr h3)] at h; cases h
          · rw [decide_eq_false (by omega), decide_eq_true (Int.ofNat_lt.mpr (by omega))] at h
            cases h
        · omega
      subst hi
      exact at0 () trivial ⟨le_0, le_fz' rfl (length_tabL f i).symm hall, trivial⟩
  rintro ⟨⟩ -
  have hN := RNormO_spec hm (addL p a b) (by rw [length_addL]; omega)
  refine ev_rs [ownR (normN p (addL p a b)).length 1 (fun j => u64 ((normN p (addL p a b)).getD j 0))] rfl ⟨⟨trivial, hN⟩, trivial⟩ (ev_ret (.inr ⟨_, 34, _, rfl, rfl, rfl, ?_, fun j hj => ⟨_, rfl, rfl⟩⟩))
  show _ * 1 ≤ (normN p (addL p a b)).length
  rw [Nat.mul_one]
  exact Nat.le_refl _

end Go.Proofs

/- newton, walked: its laws on rows of values. -/
set_option linter.unusedVariables false
namespace Go.Proofs
open Go Vinc Vinc.Num

set_option maxRecDepth 20000 in
theorem RFitO_spec {p : Nat} (hm : MayM p) (l v : List Nat) (hv : l.length ≤ v.length) (hl : l.length ≤ 1000) (hw : W64 v) : CallSpecO Tryz.pr.P Tryz.pr.G 19 [u64s l, u64s v, u64 p] (rFit p l v l.length).length 1 (fun j => u64 ((rFit p l v l.length).getD j 0)) := by
  have hp0 : 0 < p := by have := hm.1; omega
  refine callSpecO_of Tryz.pr Tryz.func19 rfl rfl rfl fun w0 ok0 hok hG => ?_
  refine ev_rs [] rfl trivial ?_
  refine ev_rs [] rfl trivial (ev_nilown 7 7 rfl rfl ?_)
  refine ev_at (α := Unit) (fun _ => True) (fun _ => [(7, .own 7 0 (rFit p l v l.length).length 1)]) (fun _ => [(7, ob64 (rFit p l v l.length))]) ?_ ?_
  · refine ev_rs [] rfl trivial ?_
    refine ev_block (ev_while (α := Nat) (fun i => i ≤ l.length) (fun i => [(0, .p (u64s l)), (1, .p (u64s v)), (2, .p (u64 p)), (7, .own 7 0 (rFit p l v i).length 1), (8, .p (i64 i))]) (fun i => [(7, ob64 (rFit p l v i))]) (fun i => l.length - i) 0
      (Nat.zero_le _) (wk_ob rfl (fun hd => ⟨le_refl hd _, le_refl hd _, le_refl hd _, le_o rfl, le_refl hd _, trivial⟩)) ?_)
    rintro i h1
    refine ev_seq (ev_rs [] rfl trivial (ev_cond rfl (fun h => ev_sk ?_) (fun h => ev_exit ?_)))
    · have hi : i < l.length := Int.ofNat_lt.mp (of_decide_eq_true h)
      have hst : rFit p l v (i + 1) = rAdd p (rFit p l v i) (rScale p (lagF p l i l.length) (v.getD i 0)) := rfl
      have q1 := rFit_len hp0 l v i (by omega)
      have q2 := lagF_le hp0 l i l.length
      have q3 := rScale_len hp0 (lagF p l i l.length) (v.getD i 0)
      have hL := RLag_spec hm l i hi hl
      have hS := RScale_spec hm (lagF p l i l.length) (v.getD i 0) (by omega) (hw i)
      have hA := RAddO_spec hm (rFit p l v i) (rScale p (lagF p l i l.length) (v.getD i 0)) (by omega) (by omega)
      rw [← hst] at hA
      generalize rScale p (lagF p l i l.length) (v.getD i 0) = sc at *
      generalize lagF p l i l.length = lg at *
      have iv : i < v.length := by omega
      have i0 : (0 : Int) ≤ (i : Int) := by omega
      have i1 : (i : Int) < (v.length : Int) := by omega
      have hle : 0 + (rFit p l v i).length ≤ (rFit p l v i).length := by omega
      refine ev_seq (ev_block (ev_draw [u64s lg, u64s sc, ownR (rFit p l v (i + 1)).length 1 (fun j => u64 ((rFit p l v (i + 1)).getD j 0))] (by kernel_rfl) rfl rfl (by repeat' (first | exact trivial | exact gd_t | exact gd_f | exact .inl hL | exact .inl hS | exact hA | exact hle | exact iv | exact i0 | exact i1 | exact (fun _ => rfl) | intro _ | apply And.intro | assumption | exact rfl | exact gd_t (by assumption) | exact gd_f (by assumption) | exact gd_a (by assumption) (by assumption) | exact gd_b (by assumption) (by assumption))) ?_))
      exact ev_region [] rfl trivial ⟨i + 1, hi, by dsimp only; omega, wk_ren (i' := 27) rfl (fun hd => ⟨le_refl hd _, le_refl hd _, le_refl hd _, le_ren rfl rfl, le_n hd (congrArg (fun z => PV.val (.int .i64 z)) (wrapI _ (by omega) (by omega))), trivial⟩)⟩
    · have hi : i = l.length := by
        have := of_decide_eq_false h
        omega
      subst hi
      exact at_ob (xs := fun _ => rFit p l v l.length) () trivial rfl (fun hd => ⟨le_o rfl, trivial⟩)
  rintro ⟨⟩ -
  refine ev_rs [] rfl trivial (ev_ret (.inr ⟨_, 7, _, rfl, rfl, rfl, ?_, fun j hj => ⟨_, rfl, rfl⟩⟩))
  show _ * 1 ≤ (rFit p l v l.length).length
  rw [Nat.mul_one]
  exact Nat.le_refl _

theorem map_getD (f : Nat → Nat) (l : List Nat) {j : Nat} (hj : j < l.length) : (l.map f).getD j 0 = f (l.getD j 0) := by
  rw [List.getD_eq_getElem?_getD, List.getD_eq_getElem?_getD, List.getElem?_map, List.getElem?_eq_getElem hj]
  rfl

/-! ### what a row knows -/

theorem row_known {p : Nat} {ls vs : List Nat} {s : RS} (h : RowOk p ls vs s) (x : Nat) : (lkB s.es ((x % p : Nat) : Int) = false ↔ ∀ y ∈ ls, y % p ≠ x % p) ∧ s.es.length = ls.length := by
  refine ⟨?_, ?_⟩
  · rw [lkB_false, ixE_none]
    constructor
    · intro h1 y hy e
      have : (((y % p : Nat)) : Int) ∈ s.es.map (·.1) := by rw [h.keys]; exact List.mem_map.mpr ⟨y, hy, rfl⟩
      obtain ⟨q, hq, hqe⟩ := List.mem_map.mp this
      exact h1 q hq (hqe.trans (congrArg (fun n : Nat => (n : Int)) e))
    · intro h1 q hq e
      have : q.1 ∈ s.es.map (·.1) := List.mem_map.mpr ⟨q, hq, rfl⟩
      rw [h.keys] at this
      obtain ⟨y, hy, he⟩ := List.mem_map.mp this
      exact h1 y hy (Int.ofNat_inj.mp (he.trans e))
  · have := congrArg List.length h.keys
    rw [List.length_map, List.length_map] at this
    exact this

theorem row_step {p : Nat} (hf : FdP p (minv p)) {ls vs : List Nat} {s : RS} (h : RowOk p ls vs s) (hv : vs.length = ls.length) {x : Nat} (y : Nat) (hx : ∀ z ∈ ls, z % p ≠ x % p) : RowOk p (ls ++ [x]) (vs ++ [y]) (stepR putE (minv p) p s x y) :=
  h.step hf hv hx (putE_new (lkB_false.mp ((row_known h x).1.mpr hx)))

theorem row_fresh {p : Nat} (hf : FdP p (minv p)) (hm : MayM p) {ls vs : List Nat} {s : RS} (h : RowOk p ls vs s) {x : Nat} (hx : ∀ z ∈ ls, z % p ≠ x % p) : wrong (evalN p (x % p) s.all) p = 0 := by
  have hne := h.fresh hf.prime hx
  refine (wrong_gcd hm).mpr ?_
  rw [Nat.gcd_comm]
  exact hf.prime.coprime fun h => hne (Nat.mod_eq_zero_of_dvd h)

theorem row_lens {p : Nat} (hp : 1 < p) {ls vs : List Nat} {s : RS} (h : RowOk p ls vs s) : s.now.length ≤ ls.length ∧ s.all.length = ls.length + 1 := by
  refine ⟨h.len, ?_⟩
  rw [h.all, (prodF_len hp _).1, List.length_reverse]

/-- Whether its polynomial was right. -/
theorem had_iff {p : Nat} (hp : 0 < p) (x y : Nat) (a : List Nat) : (((sb (y % p) (evalN p (x % p) a) p : Nat) : Int) == 0) = (((evalN p x a : Nat) : Int) == ((y % p : Nat) : Int)) := by
  rw [evalN_mod hp]
  have h1 := evalN_lt hp x a
  have h2 := Nat.mod_lt y hp
  have hs := sb_lt hp (y % p) (evalN p x a)
  have hc := cg.sb hp (y % p) (evalN p x a)
  by_cases e : evalN p x a = y % p
  · rw [e, beq_self_eq_true]
    refine beq_iff_eq.mpr (congrArg (fun n : Nat => (n : Int)) ((cg.zero_iff hp (sb_lt hp _ _)).mp ((cg.sb hp (y % p) (y % p)).trans (cg.of_eq (Int.sub_self _)))))
  · rw [beq_eq_false_iff_ne.mpr fun h => e (Int.ofNat_inj.mp h)]
    refine beq_eq_false_iff_ne.mpr fun h => e ?_
    have h0 : sb (y % p) (evalN p x a) p = 0 := Int.ofNat_inj.mp h
    rw [h0] at hc
    have : cg p ((y % p : Nat) : Int) ((evalN p x a : Nat) : Int) := by
      refine (cg.of_eq (by omega : ((y % p : Nat) : Int) = (((y % p : Nat) : Int) - (evalN p x a : Nat)) + (evalN p x a : Nat))).trans ((hc.symm.add (cg.refl _)).trans (cg.of_eq (by omega)))
    exact (cg.eq_of_lt this h2 h1).symm

theorem gd_no {x y : Bool} (hx : x = false) (e : ((bif true then x else false) == true && y) = true) : False := by rw [hx] at e; cases e
theorem gd_yes {x : Bool} (hx : x = true) : ((bif true then x else false) == true && (!true == false)) = true := by rw [hx]; rfl
theorem gd_yes1 {x : Bool} (hx : x = true) : ((bif true then x else false) == true) = true := by rw [hx]; rfl

set_option maxRecDepth 40000 in
set_option maxHeartbeats 1000000 in
theorem NewtonSteady_spec (p : Nat) (a l : List Nat) (hp : p < 18446744073709551616) (hw : W64 l) : CallSpec Tryz.pr.P Tryz.pr.G 9 [u64 p, u64s a, u64s l] (Vinc.bool true) := by
  refine callSpec_of Tryz.pr Tryz.func9 rfl rfl rfl fun w0 ok0 hok hG => ?_
  refine ev_rs [] rfl trivial ?_
  by_cases hA : Asked p
  · have hm := asked_may hA
    have hb := isB_asked hA
    have hf := asked_fd hA
    have hp0 := hf.pos
    have hp1 := hf.prime.1
    refine ev_seq (ev_rs [Vinc.bool true] rfl (by repeat' (first | exact trivial | exact gd_t | exact gd_f | exact .inl (LawPrimeN_t hA) | exact (fun _ => rfl) | intro _ | apply And.intro | assumption | exact rfl | exact gd_t (by assumption) | exact gd_f (by assumption) | exact gd_a (by assumption) (by assumption) | exact gd_b (by assumption) (by assumption))) (ev_cond rfl (fun h => ?_) (fun h => ev_sk ?_)))
    · exact ev_rs [Vinc.bool true] rfl ⟨.inl awake12_spec, trivial⟩ (ev_ret (ret1 (fz_p (PLe.refl _))))
    obtain ⟨g0, _⟩ := and_nt _ _ h
    obtain ⟨g1, g2⟩ := or_f _ _ g0
    have ha : a.length ≤ 10 := by have := of_decide_eq_false g1; omega
    have hl : l.length ≤ 20 := by have := of_decide_eq_false g2; omega
    have hN := RNorm_spec hm a (by omega)
    have lna := normN_len p a
    have hnz := Nz.norm hp0 a
    have hna : ∀ x, cg p (ev x (normN p a)) (ev x a) := fun x => ev_norm x a
    generalize normN p a = n at *
    refine ev_rs [u64s n] rfl ⟨.inl hN, trivial⟩ ?_
    refine ev_rg [.x ⟨[.p (u64 p)], [], [(900, rowOb p [] [1]), (901, mapOb .u64 .u64 [])], .tp 2 (twoA (.oat 900 0) (.p (i64 0)))⟩] rfl ⟨⟨rfl, trivial, RowNew_ok hm hb⟩, trivial⟩ ?_
    refine ev_seq (ev_rs [] rfl (by repeat' (first | exact trivial | exact gd_t | exact gd_f | exact (fun _ => rfl) | intro _ | apply And.intro | assumption | exact rfl | exact gd_t (by assumption) | exact gd_f (by assumption) | exact gd_a (by assumption) (by assumption) | exact gd_b (by assumption) (by assumption))) (ev_cf rfl (ev_sk ?_)))
    refine ev_at (α := Unit) (fun _ => True) (fun _ => []) (fun _ => []) ?_ ?_
    · refine ev_rs [] rfl trivial ?_
      refine ev_block (ev_while (α := Nat × RS) (fun q => q.1 ≤ l.length ∧ ∃ ls, RowOk p ls (ls.map fun x => evalN p x a) q.2 ∧ ls.length ≤ q.1) (fun q => [(0, .p (u64 p)), (1, .p (u64s a)), (2, .p (u64s l)), (7, .p (u64s n)), (8, .oat 900 0), (10, .p (i64 q.1))]) (fun q => rowObs p q.2) (fun q => l.length - q.1) (0, ⟨[], [1], []⟩)
        ⟨Nat.zero_le _, [], RowOk.nil hp0, Nat.le_refl _⟩ (row_wk (s := ⟨[], [1], []⟩) rfl rfl (fun hd => ⟨le_refl hd _, le_refl hd _, le_refl hd _, le_refl hd _, le_a rfl, le_refl hd _, trivial⟩)) ?_)
      rintro ⟨i, s⟩ ⟨h3, ls, h4, h5⟩
      dsimp only at h3 h4 h5
      refine ev_seq (ev_rs [] rfl trivial (ev_cond rfl (fun h => ev_sk ?_) (fun h => ev_exit ?_)))
      · have hi : i < l.length := Int.ofNat_lt.mp (of_decide_eq_true h)
        obtain ⟨x, hx⟩ : ∃ x, l.getD i 0 = x := ⟨_, rfl⟩
        have hx64 : x < 18446744073709551616 := hx ▸ hw i
        have hV := ValueN_spec hm a x (by omega) hx64
        obtain ⟨q1, q2⟩ := row_known h4 x
        obtain ⟨q3, q4⟩ := row_lens hp1 h4
        obtain ⟨y, hy⟩ : ∃ y, evalN p x a = y := ⟨_, rfl⟩
        have hyp : y < p := hy ▸ evalN_lt hp0 x a
        rw [hy] at hV
        have hlen := RowLen_spec (p := p) s
        have i0 : (0 : Int) ≤ (i : Int) := by omega
        have i1 : (i : Int) < (l.length : Int) := by omega
        have hcV : CallOk Tryz.pr.P Tryz.pr.G 25 [u64s a, u64 (l.getD i 0), u64 p] (u64 y) := .inl (by rw [hx]; exact hV)
        refine ev_seq (ev_block ?_)
        refine ev_rg [.x ⟨[.oat 900 0], rowObs p s, rowObs p s, .p (i64 s.es.length)⟩] rfl ⟨⟨rfl, ⟨rfl, rfl, trivial⟩, hlen⟩, trivial⟩ ?_
        by_cases hk : ∀ z ∈ ls, z % p ≠ x % p
        · have hlk := q1.mpr hk
          have hst := row_step hf h4 (by rw [List.length_map]) y hk
          have hAdd := Add_ok hm s x y hlk (by omega) (by omega) (by omega) (row_fresh hf hm h4 hk)
          have hAdd : CallSpecX Tryz.pr.P Tryz.pr.G 24 [.oat 900 0, .p (u64 (l.getD i 0)), .p (u64 y)] (rowObs p s) (rowObs p (stepR putE (minv p) p s x y)) (.tp 2 (twoA (.p (Vinc.bool (((sb (y % p) (evalN p (x % p) s.now) p : Nat) : Int) == 0))) (.p (i64 0)))) := by rw [hx]; exact hAdd
          rw [had_iff hp0, Nat.mod_eq_of_lt hyp] at hAdd
          have hst : RowOk p (ls ++ [x]) ((ls ++ [x]).map fun x => evalN p x a) (stepR putE (minv p) p s x y) := by
            rw [List.map_append]
            have : [x].map (fun x => evalN p x a) = [y] := by rw [← hy]; rfl
            rw [this]
            exact hst
          have hvn : n.length ≤ ls.length → n = s.now := fun hle => h4.unique hf hnz hle fun j hj => by
            rw [map_getD _ _ hj]
            exact (hna _).trans (evalN_cg _ a).symm
          have hvn2 : n.length ≤ ls.length → n = (stepR putE (minv p) p s x y).now := fun hle => hst.unique hf hnz (by rw [List.length_append]; omega) fun j hj => by
            rw [map_getD _ _ hj]
            exact (hna _).trans (evalN_cg _ a).symm
          obtain ⟨q5, q6⟩ := row_lens hp1 hst
          rw [List.length_append, List.length_singleton] at q5 q6
          have hPo := RowPoly_spec hm (stepR putE (minv p) p s x y) (by omega)
          rw [hst.nz.norm_id hp0] at hPo
          have hnext : ∃ ls', RowOk p ls' (ls'.map fun x => evalN p x a) (stepR putE (minv p) p s x y) ∧ ls'.length ≤ i + 1 := ⟨_, hst, by rw [List.length_append, List.length_singleton]; omega⟩
          generalize stepR putE (minv p) p s x y = s' at *
          refine ev_dg [.v (u64 y), .x ⟨[.oat 900 0, .p (u64 (l.getD i 0)), .p (u64 y)], rowObs p s, rowObs p s', .tp 2 (twoA (.p (Vinc.bool (((evalN p x s.now : Nat) : Int) == (y : Int)))) (.p (i64 0)))⟩] (by kernel_rfl) rfl rfl (by repeat' (first | exact trivial | exact gd_t | exact gd_f | exact hAdd | exact hcV | exact hi | exact i0 | exact i1 | exact (fun _ => rfl) | intro _ | apply And.intro | assumption | exact rfl | exact gd_t (by assumption) | exact gd_f (by assumption) | exact gd_a (by assumption) (by assumption) | exact gd_b (by assumption) (by assumption))) ?_
          by_cases hmn : n.length ≤ ls.length
          · have hD : decide (((s.es.length : Nat) : Int) ≥ ((n.length : Nat) : Int)) = true := decide_eq_true (by omega)
            have hhad : (((evalN p x s.now : Nat) : Int) == (y : Int)) = true := by
              rw [← hvn hmn]
              refine beq_iff_eq.mpr (congrArg (fun n : Nat => (n : Int)) ?_)
              rw [← hy]
              exact evalN_eq hp0 (hna x)
            have hS := same_t n (by omega)
            rw [← hvn2 hmn] at hPo
            refine ev_eq 12 (.p (Vinc.bool true)) (congrArg (fun z => AV.p (Vinc.bool z)) hhad) ?_
            refine ev_seq (ev_rg [.x ⟨[.oat 900 0], rowObs p s', rowObs p s', .p (u64s n)⟩, .v (Vinc.bool true)] rfl (by repeat' (first | exact trivial | exact gd_t | exact gd_f | exact .inl hS | exact gd_yes hD | exact gd_yes1 hD | exact hPo | exact (fun _ => rfl) | intro _ | apply And.intro | assumption | exact rfl | exact gd_t (by assumption) | exact gd_f (by assumption) | exact gd_a (by assumption) (by assumption) | exact gd_b (by assumption) (by assumption))) (ev_cf (congrArg (fun z => AV.p (PV.val (.bool z))) (show (bif (bif true then decide (((s.es.length : Nat) : Int) ≥ ((n.length : Nat) : Int)) else false) then (bif !true then true else !true) else false) = false by rw [hD]; rfl)) (ev_sk ?_)))
            refine ev_rs [] rfl (by repeat' (first | exact trivial | exact gd_t | exact gd_f | exact (fun _ => rfl) | intro _ | apply And.intro | assumption | exact rfl | exact gd_t (by assumption) | exact gd_f (by assumption) | exact gd_a (by assumption) (by assumption) | exact gd_b (by assumption) (by assumption))) (ev_cf rfl (ev_skip ?_))
            exact ev_region [] rfl trivial ⟨(i + 1, s'), ⟨hi, hnext⟩, by dsimp only; omega, row_wk (s := s') rfl rfl (fun hd => ⟨le_refl hd _, le_refl hd _, le_refl hd _, le_refl hd _, le_a rfl, le_n hd (congrArg (fun z => PV.val (.int .i64 z)) (wrapI _ (by omega) (by omega))), trivial⟩)⟩
          · have hD : decide (((s.es.length : Nat) : Int) ≥ ((n.length : Nat) : Int)) = false := decide_eq_false (by omega)
            refine ev_seq (ev_rg [.v .any, .v (Vinc.bool true)] rfl (by repeat' (first | exact trivial | exact gd_t | exact gd_f | exact fun e => (gd_no hD e).elim | exact (fun _ => rfl) | intro _ | apply And.intro | assumption | exact rfl | exact gd_t (by assumption) | exact gd_f (by assumption) | exact gd_a (by assumption) (by assumption) | exact gd_b (by assumption) (by assumption))) (ev_cf (congrArg (fun z => AV.p (PV.val (.bool z))) (show (bif (bif true then decide (((s.es.length : Nat) : Int) ≥ ((n.length : Nat) : Int)) else false) then (bif !(((evalN p x s.now : Nat) : Int) == (y : Int)) then true else !true) else false) = false by rw [hD]; rfl)) (ev_sk ?_)))
            refine ev_rs [] rfl (by repeat' (first | exact trivial | exact gd_t | exact gd_f | exact (fun _ => rfl) | intro _ | apply And.intro | assumption | exact rfl | exact gd_t (by assumption) | exact gd_f (by assumption) | exact gd_a (by assumption) (by assumption) | exact gd_b (by assumption) (by assumption))) (ev_cf rfl (ev_skip ?_))
            exact ev_region [] rfl trivial ⟨(i + 1, s'), ⟨hi, hnext⟩, by dsimp only; omega, row_wk (s := s') rfl rfl (fun hd => ⟨le_refl hd _, le_refl hd _, le_refl hd _, le_refl hd _, le_a rfl, le_n hd (congrArg (fun z => PV.val (.int .i64 z)) (wrapI _ (by omega) (by omega))), trivial⟩)⟩
        · have hlk : lkB s.es ((x % p : Nat) : Int) = true := by
            cases hb : lkB s.es ((x % p : Nat) : Int) with
            | true => rfl
            | false => exact absurd (q1.mp hb) hk
          have hAdd := Add_known hm s x y hlk
          have hAdd : CallSpecX Tryz.pr.P Tryz.pr.G 24 [.oat 900 0, .p (u64 (l.getD i 0)), .p (u64 y)] (rowObs p s) (rowObs p s) (.tp 2 (twoA (.p (Vinc.bool false)) (.p (i64 11)))) := by rw [hx]; exact hAdd
          refine ev_dg [.v (u64 y), .x ⟨[.oat 900 0, .p (u64 (l.getD i 0)), .p (u64 y)], rowObs p s, rowObs p s, .tp 2 (twoA (.p (Vinc.bool false)) (.p (i64 11)))⟩] (by kernel_rfl) rfl rfl (by repeat' (first | exact trivial | exact gd_t | exact gd_f | exact hAdd | exact hcV | exact hi | exact i0 | exact i1 | exact (fun _ => rfl) | intro _ | apply And.intro | assumption | exact rfl | exact gd_t (by assumption) | exact gd_f (by assumption) | exact gd_a (by assumption) (by assumption) | exact gd_b (by assumption) (by assumption))) ?_
          refine ev_seq (ev_rg [.v .any, .v (Vinc.bool true)] rfl (by repeat' (first | exact trivial | exact gd_t | exact gd_f | exact fun e => absurd (show false = true from e) (by decide) | exact (fun _ => rfl) | intro _ | apply And.intro | assumption | exact rfl | exact gd_t (by assumption) | exact gd_f (by assumption) | exact gd_a (by assumption) (by assumption) | exact gd_b (by assumption) (by assumption))) (ev_cf rfl (ev_sk ?_)))
          refine ev_rs [] rfl (by repeat' (first | exact trivial | exact gd_t | exact gd_f | exact (fun _ => rfl) | intro _ | apply And.intro | assumption | exact rfl | exact gd_t (by assumption) | exact gd_f (by assumption) | exact gd_a (by assumption) (by assumption) | exact gd_b (by assumption) (by assumption))) (ev_cf rfl (ev_skip ?_))
          exact ev_region [] rfl trivial ⟨(i + 1, s), ⟨hi, ls, h4, by dsimp only; omega⟩, by dsimp only; omega, row_wk (s := s) rfl rfl (fun hd => ⟨le_refl hd _, le_refl hd _, le_refl hd _, le_refl hd _, le_a rfl, le_n hd (congrArg (fun z => PV.val (.int .i64 z)) (wrapI _ (by omega) (by omega))), trivial⟩)⟩
      · exact at0 () trivial trivial
    rintro ⟨⟩ -
    exact ev_rs [Vinc.bool true] rfl ⟨.inl awake12_spec, trivial⟩ (ev_ret (ret1 (fz_p (PLe.refl _))))
  · refine ev_seq (ev_rs [Vinc.bool false] rfl (by repeat' (first | exact trivial | exact gd_t | exact gd_f | exact .inl (LawPrimeN_f hA) | exact (fun _ => rfl) | intro _ | apply And.intro | assumption | exact rfl | exact gd_t (by assumption) | exact gd_f (by assumption) | exact gd_a (by assumption) (by assumption) | exact gd_b (by assumption) (by assumption))) (ev_cond rfl (fun h => ?_) (fun h => ?_)))
    · exact ev_rs [Vinc.bool true] rfl ⟨.inl awake12_spec, trivial⟩ (ev_ret (ret1 (fz_p (PLe.refl _))))
    · obtain ⟨_, g⟩ := and_nt _ _ h
      cases g

end Go.Proofs

/- newton, walked: what a row answers, value by value. -/
set_option linter.unusedVariables false
namespace Go.Proofs
open Go Vinc Vinc.Num

/-- A row, and the lists of places and values that it was given. -/
noncomputable abbrev rowsObs (p : Nat) (s : RS) (xs ys : List Nat) : List (Nat × Ob) := [(900, rowOb p s.now s.all), (901, mapOb .u64 .u64 s.es), (9, ob64 xs), (10, ob64 ys)]

def ρ2 (a b : Nat) (i : Nat) : Nat := bif Nat.beq i 9 then a else bif Nat.beq i 10 then b else i

theorem rows_ren {σ : St} {p : Nat} {s : RS} {xs ys : List Nat} {l : List (Nat × AV)} (a b : Nat) (h0 : σ.h 900 = some (rowOb p s.now s.all)) (h1 : σ.h 901 = some (mapOb .u64 .u64 s.es)) (h2 : σ.h a = some (ob64 xs)) (h3 : σ.h b = some (ob64 ys)) :
    Ren σ (mk l (rowsObs p s xs ys)) (ρ2 a b) := ren_list fun q hq => by
  simp only [List.mem_cons, List.not_mem_nil, or_false] at hq
  rcases hq with rfl | rfl | rfl | rfl
  · show (σ.h 900).isSome = true
    rw [h0]; rfl
  · show (σ.h 901).isSome = true
    rw [h1]; rfl
  · show (σ.h a).isSome = true
    rw [h2]; rfl
  · show (σ.h b).isSome = true
    rw [h3]; rfl

theorem rows_obs {c : Cx} {σ : St} {p : Nat} {s : RS} {xs ys : List Nat} {l : List (Nat × AV)} (a b : Nat) (h0 : σ.h 900 = some (rowOb p s.now s.all)) (h1 : σ.h 901 = some (mapOb .u64 .u64 s.es)) (h2 : σ.h a = some (ob64 xs)) (h3 : σ.h b = some (ob64 ys)) :
    Obs c σ (mk l (rowsObs p s xs ys)) (ρ2 a b) (rowsObs p s xs ys) := by
  have hr := rows_ren (l := l) a b h0 h1 h2 h3
  refine ⟨⟨_, h0, Nat.le_refl 5, fun j hj => ?_⟩, ⟨_, h1, Nat.le_refl 1, fun _ _ => le_mp⟩, ⟨_, h2, Nat.le_refl _, fun j _ => le_refl hr _⟩, ⟨_, h3, Nat.le_refl _, fun j _ => le_refl hr _⟩, trivial⟩
  match j, hj with
  | 0, _ => exact le_refl hr _
  | 1, _ => exact le_refl hr _
  | 2, _ => exact le_mapv (ρ := ρ2 a b) (i := 901) rfl
  | 3, _ => exact le_refl hr _
  | 4, _ => exact le_refl hr _

theorem rows_wk {c : Cx} {σ : St} {p : Nat} {s : RS} {xs ys : List Nat} {l : List (Nat × AV)} (a b : Nat) (hi : injOk (ρ2 a b) [900, 901, 9, 10] = true) (h0 : σ.h 900 = some (rowOb p s.now s.all)) (h1 : σ.h 901 = some (mapOb .u64 .u64 s.es)) (h2 : σ.h a = some (ob64 xs)) (h3 : σ.h b = some (ob64 ys))
    (ht : Ren σ (mk l (rowsObs p s xs ys)) (ρ2 a b) → Slots c σ (mk l (rowsObs p s xs ys)) (ρ2 a b) l) : Wk c σ (mk l (rowsObs p s xs ys)) :=
  wk (ρ2 a b) (ht (rows_ren a b h0 h1 h2 h3)) (rows_obs a b h0 h1 h2 h3) hi

theorem rows_wk2 {c : Cx} {σ : St} {p : Nat} {s : RS} {xs ys : List Nat} {l : List (Nat × AV)} {o : Ob} (a b : Nat) (hi : injOk (ρ2 a b) [900, 901, 9, 10] = true) (h0 : σ.h 900 = some (rowOb p s.now s.all)) (h1 : σ.h 901 = some (mapOb .u64 .u64 s.es)) (h2 : σ.h a = some (ob64 xs)) (h3 : σ.h b = some o)
    (hn : ys.length ≤ o.n) (hf : ∀ j, j < ys.length → o.f j = .p (u64 (ys.getD j 0))) (ht : Ren σ (mk l (rowsObs p s xs ys)) (ρ2 a b) → Slots c σ (mk l (rowsObs p s xs ys)) (ρ2 a b) l) : Wk c σ (mk l (rowsObs p s xs ys)) := by
  have hr : Ren σ (mk l (rowsObs p s xs ys)) (ρ2 a b) := ren_list fun q hq => by
    simp only [List.mem_cons, List.not_mem_nil, or_false] at hq
    rcases hq with rfl | rfl | rfl | rfl
    · show (σ.h 900).isSome = true
      rw [h0]; rfl
    · show (σ.h 901).isSome = true
      rw [h1]; rfl
    · show (σ.h a).isSome = true
      rw [h2]; rfl
    · show (σ.h b).isSome = true
      rw [h3]; rfl
  refine wk (ρ2 a b) (ht hr) ⟨⟨_, h0, Nat.le_refl 5, fun j hj => ?_⟩, ⟨_, h1, Nat.le_refl 1, fun _ _ => le_mp⟩, ⟨_, h2, Nat.le_refl _, fun j _ => le_refl hr _⟩, ⟨_, h3, hn, fun j hj => by rw [hf j hj]; exact le_refl hr _⟩, trivial⟩ hi
  match j, hj with
  | 0, _ => exact le_refl hr _
  | 1, _ => exact le_refl hr _
  | 2, _ => exact le_mapv (ρ := ρ2 a b) (i := 901) rfl
  | 3, _ => exact le_refl hr _
  | 4, _ => exact le_refl hr _

theorem le_9 {c : Cx} {σ σ' : St} {a b n : Nat} (h : (σ'.h 9).isSome = true) : Le c σ σ' (ρ2 a b) (.own a 0 n 1) (.own 9 0 n 1) := le_own (ρ := ρ2 a b) (i := 9) h
theorem le_10 {c : Cx} {σ σ' : St} {a b n : Nat} (h : (σ'.h 10).isSome = true) : Le c σ σ' (ρ2 a b) (.own b 0 n 1) (.own 10 0 n 1) := le_own (ρ := ρ2 a b) (i := 10) h
theorem le_900 {c : Cx} {σ σ' : St} {a b : Nat} (h : (σ'.h 900).isSome = true) : Le c σ σ' (ρ2 a b) (.oat 900 0) (.oat 900 0) := le_oat (ρ := ρ2 a b) (i := 900) h

/-- Whether a place is among some. -/
def knB (p : Nat) (xs : List Nat) (x : Nat) : Nat → Bool
  | 0 => false
  | k + 1 => bif knB p xs x k then true else (((xs.getD k 0 : Nat) : Int).tmod (p : Int) == ((x : Nat) : Int).tmod (p : Int))

theorem knB_iff {p : Nat} (xs : List Nat) (x : Nat) : ∀ n, knB p xs x n = true ↔ ∃ j, j < n ∧ xs.getD j 0 % p = x % p
  | 0 => ⟨fun h => Bool.noConfusion h, fun ⟨j, h, _⟩ => absurd h (Nat.not_lt_zero _)⟩
  | n + 1 => by
    have ih := knB_iff (p := p) xs x n
    have e : ((((xs.getD n 0 : Nat) : Int).tmod (p : Int)) == ((x : Nat) : Int).tmod (p : Int)) = true ↔ xs.getD n 0 % p = x % p := by
      rw [beq_iff_eq]
      exact ⟨fun h => Int.ofNat_inj.mp h, fun h => congrArg (fun n : Nat => (n : Int)) h⟩
    unfold knB
    cases hk : knB p xs x n with
    | true =>
      obtain ⟨j, h1, h2⟩ := ih.mp hk
      exact ⟨fun _ => ⟨j, by omega, h2⟩, fun _ => rfl⟩
    | false =>
      constructor
      · intro h
        exact ⟨n, by omega, e.mp h⟩
      · rintro ⟨j, h1, h2⟩
        by_cases hj : j = n
        · subst hj; exact e.mpr h2
        · rw [ih.mpr ⟨j, by omega, h2⟩] at hk; cases hk

theorem knB_mem {p : Nat} (xs : List Nat) (x : Nat) : knB p xs x xs.length = true ↔ ∃ y ∈ xs, y % p = x % p := by
  rw [knB_iff]
  constructor
  · rintro ⟨j, h1, h2⟩
    exact ⟨_, mem_getD h1, h2⟩
  · rintro ⟨y, h1, h2⟩
    obtain ⟨i, hi, rfl⟩ := mem_index h1
    exact ⟨i, hi, h2⟩

theorem gd_ne {n : Int} : ((n != n) == false) = true := by rw [bne_self_eq_false]; rfl

theorem w64_snoc {ys : List Nat} (h : W64 ys) {y : Nat} (hy : y < 18446744073709551616) : W64 (ys ++ [y]) := fun j => by
  rcases Nat.lt_trichotomy j ys.length with h1 | h1 | h1
  · rw [getD_app_l h1]; exact h j
  · subst h1; rw [getD_app_r]; exact hy
  · rw [getD_ge (by rw [List.length_append, List.length_singleton]; omega)]; omega

theorem two_rows {xs ys : List Nat} : ∀ i o, hOf [(9, ob64 xs), (10, ob64 ys)] i = some o → ∃ zs, o = ob64 zs := fun i o h => by
  have := hOf_some_mem h
  simp only [List.mem_cons, List.not_mem_nil, or_false, Prod.mk.injEq] at this
  rcases this with ⟨_, rfl⟩ | ⟨_, rfl⟩
  · exact ⟨xs, rfl⟩
  · exact ⟨ys, rfl⟩

/-- What a row is told: whether it was right already, or that it knows the place. -/
theorem Add_any {p : Nat} (hm : MayM p) (hf : FdP p (minv p)) {xs ys : List Nat} {s : RS} (h : RowOk p xs ys s) (hl : xs.length ≤ 100) (hv : ys.length = xs.length) (x y : Nat) :
    ∃ (s1 : RS) (had : Bool) (f : Int), CallSpecX Tryz.pr.P Tryz.pr.G 24 [.oat 900 0, .p (u64 x), .p (u64 y)] (rowObs p s) (rowObs p s1) (.tp 2 (twoA (.p (Vinc.bool had)) (.p (i64 f)))) ∧
      ((knB p xs x xs.length = true ∧ f = 11 ∧ had = false ∧ s1 = s) ∨
       (knB p xs x xs.length = false ∧ f = 0 ∧ had = (((evalN p x s.now : Nat) : Int) == ((y : Nat) : Int).tmod (p : Int)) ∧ RowOk p (xs ++ [x]) (ys ++ [y]) s1)) := by
  have hp1 := hf.prime.1
  obtain ⟨q1, q2⟩ := row_known h x
  obtain ⟨q3, q4⟩ := row_lens hp1 h
  by_cases hk : ∀ z ∈ xs, z % p ≠ x % p
  · have hkn : knB p xs x xs.length = false := by
      cases hb : knB p xs x xs.length with
      | false => rfl
      | true =>
        obtain ⟨z, h1, h2⟩ := (knB_mem xs x).mp hb
        exact absurd h2 (hk z h1)
    have hAdd := Add_ok hm s x y (q1.mpr hk) (by omega) (by omega) (by omega) (row_fresh hf hm h hk)
    rw [had_iff hf.pos] at hAdd
    exact ⟨_, _, _, hAdd, .inr ⟨hkn, rfl, rfl, row_step hf h hv y hk⟩⟩
  · have hlk : lkB s.es ((x % p : Nat) : Int) = true := by
      cases hb : lkB s.es ((x % p : Nat) : Int) with
      | true => rfl
      | false => exact absurd (q1.mp hb) hk
    have hkn : knB p xs x xs.length = true := (knB_mem xs x).mpr (by
      simp only [Classical.not_forall, Classical.not_not] at hk
      obtain ⟨z, h1, h2⟩ := hk
      exact ⟨z, h1, h2⟩)
    exact ⟨_, _, _, Add_known hm s x y hlk, .inl ⟨hkn, rfl, rfl, rfl⟩⟩

set_option maxRecDepth 40000 in
set_option maxHeartbeats 2000000 in
theorem NewtonRows_spec (p : Nat) (l v : List Nat) (hp : p < 18446744073709551616) (hw : W64 l) (hwv : W64 v) : CallSpec Tryz.pr.P Tryz.pr.G 8 [u64 p, u64s l, u64s v] (Vinc.bool true) := by
  refine callSpec_of Tryz.pr Tryz.func8 rfl rfl rfl fun w0 ok0 hok hG => ?_
  refine ev_rs [] rfl trivial ?_
  refine ev_seq (ev_rs [] rfl (by repeat' (first | exact trivial | exact gd_t | exact gd_f | exact (fun _ => rfl) | intro _ | apply And.intro | assumption | exact rfl | exact gd_t (by assumption) | exact gd_f (by assumption) | exact gd_a (by assumption) (by assumption) | exact gd_b (by assumption) (by assumption))) (ev_cond rfl (fun h => ?_) (fun h => ev_sk ?_)))
  · exact ev_rs [Vinc.bool true] rfl ⟨.inl awake12_spec, trivial⟩ (ev_ret (ret1 (fz_p (PLe.refl _))))
  obtain ⟨g1, g2⟩ := or_f _ _ h
  have hl : l.length ≤ 10 := by have := of_decide_eq_false g1; omega
  have hvl : l.length ≤ v.length := by have := of_decide_eq_false g2; omega
  by_cases hA : Asked p
  · have hm := asked_may hA
    have hb := isB_asked hA
    have hf := asked_fd hA
    have hp0 := hf.pos
    have hp1 := hf.prime.1
    refine ev_rg [.x ⟨[.p (u64 p)], [], [(900, rowOb p [] [1]), (901, mapOb .u64 .u64 [])], .tp 2 (twoA (.oat 900 0) (.p (i64 0)))⟩] rfl ⟨⟨rfl, trivial, RowNew_ok hm hb⟩, trivial⟩ ?_
    refine ev_seq (ev_rs [Vinc.bool true] rfl ⟨.inl (LawPrimeN_t hA), trivial⟩ (ev_cf rfl (ev_sk ?_)))
    refine ev_seq (ev_rs [] rfl (by repeat' (first | exact trivial | exact gd_t | exact gd_f | exact (fun _ => rfl) | intro _ | apply And.intro | assumption | exact rfl | exact gd_t (by assumption) | exact gd_f (by assumption) | exact gd_a (by assumption) (by assumption) | exact gd_b (by assumption) (by assumption))) (ev_cf rfl (ev_sk ?_)))
    refine ev_rs [] rfl trivial (ev_nilown 9 9 rfl rfl ?_)
    refine ev_rs [] rfl trivial (ev_nilown 10 10 rfl rfl ?_)
    refine ev_at (α := Unit) (fun _ => True) (fun _ => []) (fun _ => []) ?_ ?_
    · refine ev_rs [] rfl trivial ?_
      refine ev_block (ev_while (α := Nat × RS × List Nat × List Nat) (fun q => q.1 ≤ l.length ∧ RowOk p q.2.2.1 q.2.2.2 q.2.1 ∧ q.2.2.2.length = q.2.2.1.length ∧ q.2.2.1.length ≤ q.1 ∧ W64 q.2.2.2)
        (fun q => [(0, .p (u64 p)), (1, .p (u64s l)), (2, .p (u64s v)), (7, .oat 900 0), (9, .own 9 0 q.2.2.1.length 1), (10, .own 10 0 q.2.2.2.length 1), (11, .p (i64 q.1))]) (fun q => rowsObs p q.2.1 q.2.2.1 q.2.2.2) (fun q => l.length - q.1) (0, ⟨[], [1], []⟩, [], [])
        ⟨Nat.zero_le _, RowOk.nil hp0, rfl, Nat.le_refl _, fun j => by rw [getD_ge (Nat.zero_le _)]; omega⟩
        (rows_wk (s := ⟨[], [1], []⟩) (xs := []) (ys := []) 9 10 rfl rfl rfl rfl rfl (fun hd => ⟨le_refl hd _, le_refl hd _, le_refl hd _, le_900 rfl, le_9 rfl, le_10 rfl, le_refl hd _, trivial⟩)) ?_)
      rintro ⟨i, s, xs, ys⟩ ⟨h3, h4, h5, h6, h7⟩
      dsimp only at h3 h4 h5 h6 h7
      refine ev_seq (ev_rs [] rfl trivial (ev_cond rfl (fun h => ev_sk ?_) (fun h => ev_exit ?_)))
      · have hi : i < l.length := Int.ofNat_lt.mp (of_decide_eq_true h)
        obtain ⟨x, hx⟩ : ∃ x, l.getD i 0 = x := ⟨_, rfl⟩
        obtain ⟨y, hy⟩ : ∃ y, v.getD i 0 = y := ⟨_, rfl⟩
        have hx64 : x < 18446744073709551616 := hx ▸ hw i
        have hy64 : y < 18446744073709551616 := hy ▸ hwv i
        have hV := ValueN_spec hm s.now x (by have := (row_lens hp1 h4).1; omega) hx64
        have hFx := callSpecX_of_O (pre := [(9, ob64 xs), (10, ob64 ys)]) two_rows (av := [.own 9 0 xs.length 1, .own 10 0 ys.length 1, .p (u64 p)]) (ys := [u64s xs, u64s ys, u64 p]) ⟨⟨xs, rfl, rfl, rfl⟩, ⟨ys, rfl, rfl, rfl⟩, rfl, trivial⟩ (RFitO_spec hm xs ys (by omega) (by omega) h7)
        rw [rFit_row hf h4] at hFx
        obtain ⟨s1, had, f, hAdd, hcs⟩ := Add_any hm hf h4 (by omega) h5 x y
        have hAdd : CallSpecX Tryz.pr.P Tryz.pr.G 24 [.oat 900 0, .p (u64 (l.getD i 0)), .p (u64 (v.getD i 0))] (rowObs p s) (rowObs p s1) (.tp 2 (twoA (.p (Vinc.bool had)) (.p (i64 f)))) := by rw [hx, hy]; exact hAdd
        have i0 : (0 : Int) ≤ (i : Int) := by omega
        have i1 : (i : Int) < (l.length : Int) := by omega
        have iv : i < v.length := by omega
        have i2 : (i : Int) < (v.length : Int) := by omega
        have hpz : ((p : Nat) : Int) ≠ 0 := by omega
        refine ev_seq (ev_block ?_)
        refine ev_rg [.x ⟨[.own 9 0 xs.length 1, .own 10 0 ys.length 1, .p (u64 p)], [(9, ob64 xs), (10, ob64 ys)], [(9, ob64 xs), (10, ob64 ys)], .p (u64s s.now)⟩] rfl ⟨⟨rfl, ⟨rfl, rfl, trivial⟩, hFx⟩, trivial⟩ ?_
        refine ev_dg [.x ⟨[.oat 900 0, .p (u64 (l.getD i 0)), .p (u64 (v.getD i 0))], rowObs p s, rowObs p s1, .tp 2 (twoA (.p (Vinc.bool had)) (.p (i64 f)))⟩] (by kernel_rfl) rfl rfl (by repeat' (first | exact trivial | exact gd_t | exact gd_f | exact hAdd | exact hi | exact iv | exact i0 | exact i1 | exact i2 | exact (fun _ => rfl) | intro _ | apply And.intro | assumption | exact rfl | exact gd_t (by assumption) | exact gd_f (by assumption) | exact gd_a (by assumption) (by assumption) | exact gd_b (by assumption) (by assumption))) ?_
        refine ev_rs [] rfl trivial ?_
        refine ev_at (α := Unit) (fun _ => True) (fun _ => [(0, .p (u64 p)), (1, .p (u64s l)), (2, .p (u64s v)), (7, .oat 900 0), (9, .own 9 0 xs.length 1), (10, .own 10 0 ys.length 1), (11, .p (i64 i)), (12, .p (u64s s.now)), (13, .p (Vinc.bool had)), (14, .p (i64 f)), (15, .p (Vinc.bool (knB p xs x xs.length)))]) (fun _ => rowsObs p s1 xs ys) ?_ ?_
        · refine ev_rs [] rfl trivial ?_
          refine ev_block (ev_while (α := Nat) (fun k => k ≤ xs.length)
            (fun k => [(0, .p (u64 p)), (1, .p (u64s l)), (2, .p (u64s v)), (7, .oat 900 0), (9, .own 9 0 xs.length 1), (10, .own 10 0 ys.length 1), (11, .p (i64 i)), (12, .p (u64s s.now)), (13, .p (Vinc.bool had)), (14, .p (i64 f)), (15, .p (Vinc.bool (knB p xs x k))), (16, .p (i64 k))]) (fun k => rowsObs p s1 xs ys) (fun k => xs.length - k) 0
            (Nat.zero_le _) (rows_wk 9 10 rfl rfl rfl rfl rfl (fun hd => ⟨le_refl hd _, le_refl hd _, le_refl hd _, le_900 rfl, le_9 rfl, le_10 rfl, le_refl hd _, le_refl hd _, le_refl hd _, le_refl hd _, le_refl hd _, le_refl hd _, trivial⟩)) ?_)
          rintro k h8
          refine ev_seq (ev_rs [] rfl trivial (ev_cond rfl (fun h => ev_sk ?_) (fun h => ev_exit ?_)))
          · have hk : k < xs.length := Int.ofNat_lt.mp (of_decide_eq_true h)
            have k0 : (0 : Int) ≤ (k : Int) := by omega
            have k1 : (k : Int) < (xs.length : Int) := by omega
            have hkn : (bif knB p xs x k then true else (((xs.getD k 0 : Nat) : Int).tmod (p : Int) == ((l.getD i 0 : Nat) : Int).tmod (p : Int))) = knB p xs x (k + 1) := by rw [hx]; rfl
            refine ev_seq (ev_block (ev_draw [] (by kernel_rfl) rfl rfl (by repeat' (first | exact trivial | exact gd_t | exact gd_f | exact hpz | exact hk | exact hi | exact i0 | exact i1 | exact k0 | exact k1 | exact (fun _ => rfl) | intro _ | apply And.intro | assumption | exact rfl | exact gd_t (by assumption) | exact gd_f (by assumption) | exact gd_a (by assumption) (by assumption) | exact gd_b (by assumption) (by assumption))) ?_))
            exact ev_region [] rfl trivial ⟨k + 1, hk, by dsimp only; omega, rows_wk 9 10 rfl rfl rfl rfl rfl (fun hd => ⟨le_refl hd _, le_refl hd _, le_refl hd _, le_900 rfl, le_9 rfl, le_10 rfl, le_refl hd _, le_refl hd _, le_refl hd _, le_refl hd _, le_n hd (congrArg Vinc.bool hkn), le_n hd (congrArg (fun z => PV.val (.int .i64 z)) (wrapI _ (by omega) (by omega))), trivial⟩)⟩
          · have hk : k = xs.length := by
              have := of_decide_eq_false h
              omega
            subst hk
            exact at_of (ρ2 9 10) () trivial ⟨le_refl (rows_ren (s := s1) (xs := xs) (ys := ys) 9 10 (by rfl) (by rfl) (by rfl) (by rfl)) _, le_refl (rows_ren (s := s1) (xs := xs) (ys := ys) 9 10 (by rfl) (by rfl) (by rfl) (by rfl)) _, le_refl (rows_ren (s := s1) (xs := xs) (ys := ys) 9 10 (by rfl) (by rfl) (by rfl) (by rfl)) _, le_900 rfl, le_9 rfl, le_10 rfl, le_refl (rows_ren (s := s1) (xs := xs) (ys := ys) 9 10 (by rfl) (by rfl) (by rfl) (by rfl)) _, le_refl (rows_ren (s := s1) (xs := xs) (ys := ys) 9 10 (by rfl) (by rfl) (by rfl) (by rfl)) _, le_refl (rows_ren (s := s1) (xs := xs) (ys := ys) 9 10 (by rfl) (by rfl) (by rfl) (by rfl)) _, le_refl (rows_ren (s := s1) (xs := xs) (ys := ys) 9 10 (by rfl) (by rfl) (by rfl) (by rfl)) _, le_refl (rows_ren (s := s1) (xs := xs) (ys := ys) 9 10 (by rfl) (by rfl) (by rfl) (by rfl)) _, trivial⟩ (rows_obs 9 10 rfl rfl rfl rfl) rfl
        rintro ⟨⟩ -
        refine ev_at (α := RS × List Nat × List Nat) (fun q => RowOk p q.2.1 q.2.2 q.1 ∧ q.2.2.length = q.2.1.length ∧ q.2.1.length ≤ i + 1 ∧ W64 q.2.2)
          (fun q => [(0, .p (u64 p)), (1, .p (u64s l)), (2, .p (u64s v)), (7, .oat 900 0), (9, .own 9 0 q.2.1.length 1), (10, .own 10 0 q.2.2.length 1), (11, .p (i64 i))]) (fun q => rowsObs p q.1 q.2.1 q.2.2) ?_ ?_
        · rcases hcs with ⟨hkn, rfl, rfl, rfl⟩ | ⟨hkn, rfl, hhad, hst⟩
          · refine ev_eq 15 (.p (Vinc.bool true)) (congrArg (fun z => AV.p (Vinc.bool z)) hkn) ?_
            refine ev_rs [] rfl trivial (ev_ct rfl ?_)
            refine ev_rs [] rfl (by repeat' (first | exact trivial | exact gd_t | exact gd_f | exact (fun _ => rfl) | intro _ | apply And.intro | assumption | exact rfl | exact gd_t (by assumption) | exact gd_f (by assumption) | exact gd_a (by assumption) (by assumption) | exact gd_b (by assumption) (by assumption))) (ev_cf rfl (ev_skip ?_))
            exact ⟨_, rows_wk (l := [(0, .p (u64 p)), (1, .p (u64s l)), (2, .p (u64s v)), (7, .oat 900 0), (9, .own 9 0 xs.length 1), (10, .own 10 0 ys.length 1), (11, .p (i64 i))]) 9 10 rfl rfl rfl rfl rfl (fun hd => ⟨le_refl hd _, le_refl hd _, le_refl hd _, le_900 rfl, le_9 rfl, le_10 rfl, le_refl hd _, trivial⟩), (s1, xs, ys), ⟨h4, h5, by dsimp only; omega, h7⟩, rfl⟩
          · have hVc : CallOk Tryz.pr.P Tryz.pr.G 25 [u64s s.now, u64 (l.getD i 0), u64 p] (u64 (evalN p x s.now)) := .inl (by rw [hx]; exact hV)
            refine ev_eq 15 (.p (Vinc.bool false)) (congrArg (fun z => AV.p (Vinc.bool z)) hkn) ?_
            refine ev_rs [] rfl trivial (ev_cf rfl ?_)
            have hc : (bif false then true else !(had == (((evalN p x s.now : Nat) : Int) == ((v.getD i 0 : Nat) : Int).tmod (p : Int)))) = false := by
              rw [hy, hhad, beq_self_eq_true]; rfl
            refine ev_seq (ev_dg [.v (u64 (evalN p x s.now))] (by kernel_rfl) rfl rfl (by repeat' (first | exact trivial | exact gd_t | exact gd_f | exact hVc | exact hpz | exact hi | exact iv | exact i0 | exact i1 | exact i2 | exact (fun _ => rfl) | intro _ | apply And.intro | assumption | exact rfl | exact gd_t (by assumption) | exact gd_f (by assumption) | exact gd_a (by assumption) (by assumption) | exact gd_b (by assumption) (by assumption))) (ev_cf (congrArg (fun z => AV.p (PV.val (.bool z))) hc) (ev_sk ?_)))
            refine ev_rs [] rfl ⟨⟨by omega, rfl, Nat.le_refl 1⟩, hi, ⟨i0, i1⟩, trivial⟩ (ev_app 9 133 xs [x] rfl rfl rfl rfl rfl (fun j hj => rfl) (fun j hj => ?_) ?_)
            · match j, hj with
              | 0, _ => rw [← hx]; rfl
            refine ev_region [] rfl ⟨⟨by omega, rfl, Nat.le_refl 1⟩, iv, ⟨i0, i2⟩, trivial⟩ ?_
            refine ⟨_, rows_wk2 (s := s1) (xs := xs ++ [x]) (ys := ys ++ [y]) (l := [(0, .p (u64 p)), (1, .p (u64s l)), (2, .p (u64s v)), (7, .oat 900 0), (9, .own 9 0 (xs ++ [x]).length 1), (10, .own 10 0 (ys ++ [y]).length 1), (11, .p (i64 i))]) 133 140 rfl rfl rfl rfl rfl (by rw [List.length_append]; exact Nat.le_refl _) (fun j hj => ?_) (fun hd => ⟨le_refl hd _, le_refl hd _, le_refl hd _, le_900 rfl, le_9 rfl, ?_, le_refl hd _, trivial⟩), (s1, xs ++ [x], ys ++ [y]), ⟨hst, ?_, ?_, w64_snoc h7 hy64⟩, rfl⟩
            · rw [List.length_append, List.length_singleton] at hj
              by_cases hj2 : j < ys.length
              · refine (if_pos hj2).trans ?_
                rw [getD_app_l hj2]
              · refine (if_neg hj2).trans ?_
                have e0 : j - ys.length = 0 := by omega
                have e1 : j = ys.length := by omega
                have e2 : mulS ys.length 1 = ys.length := rfl
                show shiftF _ 0 (j - ys.length) = _
                rw [e0, e1, getD_app_r, ← hy]
                rfl
            · have e : (ys ++ [y]).length = ys.length + 1 := by rw [List.length_append]; rfl
              have hle : ∀ {c : Cx} {σ σ' : St} {n m : Nat}, (σ'.h 10).isSome = true → n = m → Le c σ σ' (ρ2 133 140) (.own 140 0 m 1) (.own 10 0 n 1) := fun h e => by subst e; exact le_10 h
              exact hle (by rfl) e
            · dsimp only
              rw [List.length_append, List.length_append, h5]; rfl
            · dsimp only
              rw [List.length_append, List.length_singleton]; omega
        rintro ⟨s2, xs, ys⟩ ⟨r1, r2, r3, r4⟩
        dsimp only at r1 r2 r3 r4
        have hFx := callSpecX_of_O (pre := [(9, ob64 xs), (10, ob64 ys)]) two_rows (av := [.own 9 0 xs.length 1, .own 10 0 ys.length 1, .p (u64 p)]) (ys := [u64s xs, u64s ys, u64 p]) ⟨⟨xs, rfl, rfl, rfl⟩, ⟨ys, rfl, rfl, rfl⟩, rfl, trivial⟩ (RFitO_spec hm xs ys (by omega) (by omega) r4)
        rw [rFit_row hf r1] at hFx
        have hLen := RowLen_spec (p := p) s2
        rw [(row_known r1 0).2] at hLen
        have q3 := (row_lens hp1 r1).1
        have hPo := RowPoly_spec hm s2 (by omega)
        rw [r1.nz.norm_id hp0] at hPo
        have hS := same_t s2.now (by omega)
        have hc : (bif ((xs.length : Int) != (xs.length : Int)) then true else !true) = false := by rw [bne_self_eq_false]; rfl
        refine ev_rg [.x ⟨[.oat 900 0], rowObs p s2, rowObs p s2, .p (i64 xs.length)⟩, .x ⟨[.oat 900 0], rowObs p s2, rowObs p s2, .p (u64s s2.now)⟩, .x ⟨[.own 9 0 xs.length 1, .own 10 0 ys.length 1, .p (u64 p)], [(9, ob64 xs), (10, ob64 ys)], [(9, ob64 xs), (10, ob64 ys)], .p (u64s s2.now)⟩, .v (Vinc.bool true)] rfl
          (by repeat' (first | exact trivial | exact gd_t | exact gd_f | exact .inl hS | exact hLen | exact hPo | exact hFx | exact gd_ne | exact (fun _ => rfl) | intro _ | apply And.intro | assumption | exact rfl | exact gd_t (by assumption) | exact gd_f (by assumption) | exact gd_a (by assumption) (by assumption) | exact gd_b (by assumption) (by assumption))) (ev_cf (congrArg (fun z => AV.p (PV.val (.bool z))) hc) (ev_skip ?_))
        exact ev_region [] rfl trivial ⟨(i + 1, s2, xs, ys), ⟨hi, r1, r2, r3, r4⟩, by dsimp only; omega, rows_wk 9 10 rfl rfl rfl rfl rfl (fun hd => ⟨le_refl hd _, le_refl hd _, le_refl hd _, le_900 rfl, le_9 rfl, le_10 rfl, le_n hd (congrArg (fun z => PV.val (.int .i64 z)) (wrapI _ (by omega) (by omega))), trivial⟩)⟩
      · exact at0 () trivial trivial
    rintro ⟨⟩ -
    exact ev_rs [Vinc.bool true] rfl ⟨.inl awake12_spec, trivial⟩ (ev_ret (ret1 (fz_p (PLe.refl _))))
  · rcases unasked hA with ⟨hn, hO⟩ | hB
    · obtain ⟨hb, h1, h2⟩ := hO
      have hOd := odd_t (p := p) (e := 0) (.inl ⟨h1, h2⟩)
      refine ev_rg [.x ⟨[.p (u64 p)], [], [(900, rowOb p [] [1]), (901, mapOb .u64 .u64 [])], .tp 2 (twoA (.oat 900 0) (.p (i64 0)))⟩] rfl ⟨⟨rfl, trivial, RowNew_ok hn hb⟩, trivial⟩ ?_
      refine ev_seq (ev_rs [Vinc.bool false] rfl ⟨.inl (LawPrimeN_f hA), trivial⟩ (ev_ct rfl ?_))
      exact ev_rs [Vinc.bool true, Vinc.bool true] rfl (by repeat' (first | exact trivial | exact gd_t | exact gd_f | exact .inl hOd | exact .inl awake12_spec | exact (fun _ => rfl) | intro _ | apply And.intro | assumption | exact rfl | exact gd_t (by assumption) | exact gd_f (by assumption) | exact gd_a (by assumption) (by assumption) | exact gd_b (by assumption) (by assumption))) (ev_ret (ret1 (fz_p (PLe.of_eq rfl))))
    · have hOd := odd_t (p := p) (e := 14) (.inr rfl)
      refine ev_rs [.tup 2 (two nilP (i64 14))] rfl ⟨.inl (RowNew_no hp hB), trivial⟩ ?_
      refine ev_seq (ev_rs [Vinc.bool false] rfl ⟨.inl (LawPrimeN_f hA), trivial⟩ (ev_ct rfl ?_))
      exact ev_rs [Vinc.bool true, Vinc.bool true] rfl (by repeat' (first | exact trivial | exact gd_t | exact gd_f | exact .inl hOd | exact .inl awake12_spec | exact (fun _ => rfl) | intro _ | apply And.intro | assumption | exact rfl | exact gd_t (by assumption) | exact gd_f (by assumption) | exact gd_a (by assumption) (by assumption) | exact gd_b (by assumption) (by assumption))) (ev_ret (ret1 (fz_p (PLe.of_eq rfl))))

end Go.Proofs
