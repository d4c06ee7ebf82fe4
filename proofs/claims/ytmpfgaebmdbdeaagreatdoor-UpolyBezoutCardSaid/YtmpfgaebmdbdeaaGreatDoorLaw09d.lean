/- The laws of upoly: back; divisors with their polynomials. -/
import Derived.Test.YtmpfgaebmdbdeaaGreatDoorNil09
import Derived.Test.YtmpfgaebmdbdeaaGreatDoorUpo3
import Derived.Test.YtmpfgaebmdbdeaaGreatDoorVincRg
set_option linter.unusedVariables false
namespace Go.Proofs
open Go Vinc Vinc.Num

theorem same_t (x : List Nat) (hx : x.length < 1000000) : CallSpec Tryz.pr.P Tryz.pr.G 13 [u64s x, u64s x] (Vinc.bool true) := by
  have := Same_spec x x hx hx
  rwa [decide_eq_true rfl] at this

theorem bif_t2 {a b : Bool} (h : b = true) : (bif a then true else b) = true := by rw [h]; cases a <;> rfl

set_option maxRecDepth 100000 in
theorem UpolyBack_spec (p : Nat) (a b : List Nat) (hp : p < 18446744073709551616) : CallSpec Tryz.pr.P Tryz.pr.G 5 [u64 p, u64s a, u64s b] (Vinc.bool true) := by
  refine callSpec_of Tryz.pr Tryz.func5 rfl rfl rfl fun w0 ok0 hok hG => ?_
  refine ev_rs [] rfl trivial ?_
  by_cases hA : Asked p
  · have hm := asked_may hA
    have hf := asked_fd hA
    have hp0 := hf.pos
    refine ev_rs [.tup 2 (two (polyF p) (Vinc.bool true))] rfl ⟨.inl (field_t hA), trivial⟩ ?_
    refine ev_seq (ev_rs [] rfl trivial (ev_cf rfl (ev_sk ?_)))
    by_cases hlen : b.length < 100000
    · have hDb := Deg_spec hm b hlen
      refine ev_seq (ev_rs [i64 (((normN p b).length : Int) - 1)] rfl (by repeat' (first | exact trivial | exact gd_t | exact gd_f | exact .inl hDb | exact (fun _ => rfl) | intro _ | apply And.intro | assumption | exact rfl | exact gd_t (by assumption) | exact gd_f (by assumption) | exact gd_a (by assumption) (by assumption))) (ev_cond rfl (fun h => ?_) (fun h => ev_sk ?_)))
      · exact ev_rs [Vinc.bool true] rfl ⟨.inl awake_spec, trivial⟩ (ev_ret (ret1 (fz_p (PLe.refl _))))
      obtain ⟨g1, g4⟩ := bif5 _ _ h
      obtain ⟨g1, g3⟩ := bif5 _ _ g1
      obtain ⟨g1, g2⟩ := bif5 _ _ g1
      have ha : a.length ≤ 60 := by have := of_decide_eq_false g2; omega
      have hb : b.length ≤ 60 := by have := of_decide_eq_false g3; omega
      have hb0 : 0 < (normN p b).length := by have := of_decide_eq_false g4; omega
      have la := length_normN p a
      have lb := length_normN p b
      have hna := Nz.norm hp0 a
      have hnb := Nz.norm hp0 b
      have hD := DivM_ok hm a b (by omega) (by omega) hb0
      have hMl := timesN_len p (normN p a) (normN p b)
      have hMl' : (timesN p (normN p a) (normN p b)).length ≤ (normN p a).length + (normN p b).length := by split at hMl <;> omega
      have hM2 := Mul_way0 hm a b (by omega) (by omega)
      have hD2 := DivM_ok hm (timesN p (normN p a) (normN p b)) b (by omega) (by omega) hb0
      rw [(timesN_nz hp0 (normN p a) (normN p b)).norm_id hp0, hf.exact hna hnb hb0] at hD2
      have hN := Norm_spec hm a (by omega)
      have hbk := hf.back hna hnb hb0
      have hdv := hf.div hna hnb hb0
      have lq := divN_len (minv p) p (normN p a) (normN p b)
      obtain ⟨⟨q, r⟩, hqr⟩ : ∃ z, divN (minv p) p (normN p a) (normN p b) = z := ⟨_, rfl⟩
      rw [hqr] at hD hbk hdv lq
      dsimp only at hD hbk hdv lq
      have hM1 := Mul_way0 hm q b (by omega) (by omega)
      rw [hdv.1.norm_id hp0] at hM1
      have hTl := timesN_len p q (normN p b)
      have hTl' : (timesN p q (normN p b)).length ≤ q.length + (normN p b).length := by split at hTl <;> omega
      have hAd := UAdd_spec hm (timesN p q (normN p b)) r (by omega) (by omega)
      rw [hbk] at hAd
      have hDr := Deg_spec hm r (by omega)
      rw [hdv.2.1.norm_id hp0] at hDr
      have hS := same_t (normN p a) (by omega)
      have hrl := hdv.2.2.1
      generalize timesN p (normN p a) (normN p b) = m2 at *
      generalize timesN p q (normN p b) = m1 at *
      generalize normN p a = na at *
      generalize normN p b = nb at *
      refine ev_rs [.tup 3 (three (u64s q) (u64s r) (i64 0))] rfl ⟨.inl hD, trivial⟩ ?_
      refine ev_rs [.tup 2 (two (u64s m1) (i64 0))] rfl ⟨.inl hM1, trivial⟩ ?_
      refine ev_seq (ev_rs [u64s na, u64s na, Vinc.bool true, i64 ((r.length : Int) - 1), i64 ((nb.length : Int) - 1)] rfl (by repeat' (first | exact trivial | exact gd_t | exact gd_f | exact .inl hAd | exact .inl hN | exact .inl hS | exact .inl hDr | exact .inl hDb | exact (fun _ => rfl) | intro _ | apply And.intro | assumption | exact rfl | exact gd_t (by assumption) | exact gd_f (by assumption) | exact gd_a (by assumption) (by assumption))) (ev_cond rfl (fun h => ?_) (fun h => ev_sk ?_)))
      · exfalso
        have h : decide (((r.length : Int) - 1) ≥ ((nb.length : Int) - 1)) = true := h
        have := of_decide_eq_true h
        omega
      refine ev_rs [.tup 2 (two (u64s m2) (i64 0))] rfl ⟨.inl hM2, trivial⟩ ?_
      refine ev_rs [.tup 3 (three (u64s na) (u64s []) (i64 0))] rfl ⟨.inl hD2, trivial⟩ ?_
      exact ev_rs [u64s na, Vinc.bool true, Vinc.bool true] rfl (by repeat' (first | exact trivial | exact gd_t | exact gd_f | exact .inl hN | exact .inl hS | exact .inl awake_spec | exact (fun _ => rfl) | intro _ | apply And.intro | assumption | exact rfl | exact gd_t (by assumption) | exact gd_f (by assumption) | exact gd_a (by assumption) (by assumption))) (ev_ret (ret1 (fz_p (PLe.of_eq rfl))))
    · have hc : decide ((b.length : Int) > 60) = true := decide_eq_true (by omega)
      refine ev_seq (ev_rs [i64 0] rfl ?_ (ev_ct (congrArg (fun z => AV.p (PV.val (.bool z))) (bif_tt (bif_t2 hc))) ?_))
      · have hcc : ∀ x : Bool, (bif x then true else decide ((b.length : Int) > 60)) = true := fun x => bif_t2 hc
        repeat' (first | exact trivial | exact gd_t | exact gd_f | exact (fun e => absurd e (by rw [hcc]; decide)) | exact (fun _ => rfl) | intro _ | apply And.intro | assumption | exact rfl | exact gd_t (by assumption) | exact gd_f (by assumption) | exact gd_a (by assumption) (by assumption))
      exact ev_rs [Vinc.bool true] rfl ⟨.inl awake_spec, trivial⟩ (ev_ret (ret1 (fz_p (PLe.refl _))))
  · refine ev_rs [.tup 2 (two nilP (Vinc.bool true))] rfl ⟨.inl (field_f hp hA), trivial⟩ ?_
    refine ev_seq (ev_rs [] rfl trivial (ev_cf rfl (ev_sk ?_)))
    refine ev_seq (ev_rs [i64 0] rfl (by repeat' (first | exact trivial | exact gd_t | exact gd_f | exact .inl Deg_nil | exact (fun _ => rfl) | intro _ | apply And.intro | assumption | exact rfl | exact gd_t (by assumption) | exact gd_f (by assumption) | exact gd_a (by assumption) (by assumption))) (ev_ct rfl ?_))
    exact ev_rs [Vinc.bool true] rfl ⟨.inl awake_spec, trivial⟩ (ev_ret (ret1 (fz_p (PLe.refl _))))

set_option maxRecDepth 100000 in
set_option maxHeartbeats 1000000 in
theorem UpolyBezout_spec (p : Nat) (a b c : List Nat) (hp : p < 18446744073709551616) : CallSpec Tryz.pr.P Tryz.pr.G 7 [u64 p, .agg 3 (three (u64s a) (u64s b) (u64s c))] (Vinc.bool true) := by
  refine callSpec_of Tryz.pr Tryz.func7 rfl rfl rfl fun w0 ok0 hok hG => ?_
  refine ev_rs [] rfl trivial ?_
  by_cases hA : Asked p
  · have hm := asked_may hA
    have hf := asked_fd hA
    have hp0 := hf.pos
    refine ev_rs [.tup 2 (two (polyF p) (Vinc.bool true))] rfl ⟨.inl (field_t hA), trivial⟩ ?_
    refine ev_seq (ev_rs [] rfl trivial (ev_cf rfl (ev_sk ?_)))
    refine ev_seq (ev_rs [] rfl (by repeat' (first | exact trivial | exact gd_t | exact gd_f | exact leb rfl | exact Int.le_refl _ | exact (by decide : (0 : Int) < ((3 : Nat) : Int)) | exact (by decide : (0 : Int) ≤ 1) | exact (by decide : (1 : Int) < ((3 : Nat) : Int)) | exact (by decide : (0 : Int) ≤ 2) | exact (by decide : (2 : Int) < ((3 : Nat) : Int)) | exact (fun _ => rfl) | intro _ | apply And.intro | assumption | exact rfl | exact gd_t (by assumption) | exact gd_f (by assumption) | exact gd_a (by assumption) (by assumption))) (ev_cond rfl (fun h => ?_) (fun h => ev_sk ?_)))
    · exact ev_rs [Vinc.bool true] rfl ⟨.inl awake_spec, trivial⟩ (ev_ret (ret1 (fz_p (PLe.refl _))))
    obtain ⟨g1, g3⟩ := bif5 _ _ h
    obtain ⟨g1, g2⟩ := bif5 _ _ g1
    have ha : a.length ≤ 15 := by have := of_decide_eq_false g1; omega
    have hb : b.length ≤ 15 := by have := of_decide_eq_false g2; omega
    have hc : c.length ≤ 15 := by have := of_decide_eq_false g3; omega
    have la := length_normN p a
    have lb := length_normN p b
    have lc := length_normN p c
    have hna := Nz.norm hp0 a
    have hnb := Nz.norm hp0 b
    have hnc := Nz.norm hp0 c
    have hX := Mul_way0 hm a c (by omega) (by omega)
    have hY := Mul_way0 hm b c (by omega) (by omega)
    have lx := timesN_len p (normN p a) (normN p c)
    have lx' : (timesN p (normN p a) (normN p c)).length ≤ 30 := by split at lx <;> omega
    have ly := timesN_len p (normN p b) (normN p c)
    have ly' : (timesN p (normN p b) (normN p c)).length ≤ 30 := by split at ly <;> omega
    have zx := timesN_nz hp0 (normN p a) (normN p c)
    have zy := timesN_nz hp0 (normN p b) (normN p c)
    have hE := Ext_spec hm hf (timesN p (normN p a) (normN p c)) (timesN p (normN p b) (normN p c)) (by omega) (by omega)
    have hDx := Deg_spec hm (timesN p (normN p a) (normN p c)) (by omega)
    have hDy := Deg_spec hm (timesN p (normN p b) (normN p c)) (by omega)
    rw [zx.norm_id hp0] at hDx
    rw [zy.norm_id hp0] at hDy
    rw [zx.norm_id hp0, zy.norm_id hp0] at hE
    have hEl := extR_len2 hf zx zy lx' ly'
    have hBz := fun h0 => bezout_all hf hna hnb hnc h0 (g := (extR (minv p) p (timesN p (normN p a) (normN p c)) (timesN p (normN p b) (normN p c))).1) (s := (extR (minv p) p (timesN p (normN p a) (normN p c)) (timesN p (normN p b) (normN p c))).2.1) (t := (extR (minv p) p (timesN p (normN p a) (normN p c)) (timesN p (normN p b) (normN p c))).2.2) rfl
    have hE0 := fun h1 h2 => ext_zero (p := p) (iv := minv p) (a := timesN p (normN p a) (normN p c)) (b := timesN p (normN p b) (normN p c)) h1 h2
    generalize timesN p (normN p a) (normN p c) = x at *
    generalize timesN p (normN p b) (normN p c) = y at *
    obtain ⟨⟨g, s, t⟩, hgst⟩ : ∃ z, extR (minv p) p x y = z := ⟨_, rfl⟩
    rw [hgst] at hE hEl hBz hE0
    dsimp only at hE hEl hBz
    refine ev_rs [.tup 2 (two (u64s x) (i64 0))] rfl (by repeat' (first | exact trivial | exact gd_t | exact gd_f | exact .inl hX | exact leb rfl | exact Int.le_refl _ | exact (by decide : (0 : Int) < ((3 : Nat) : Int)) | exact (by decide : (0 : Int) ≤ 1) | exact (by decide : (1 : Int) < ((3 : Nat) : Int)) | exact (by decide : (0 : Int) ≤ 2) | exact (by decide : (2 : Int) < ((3 : Nat) : Int)) | exact (fun _ => rfl) | intro _ | apply And.intro | assumption | exact rfl | exact gd_t (by assumption) | exact gd_f (by assumption) | exact gd_a (by assumption) (by assumption))) ?_
    refine ev_rs [.tup 2 (two (u64s y) (i64 0))] rfl (by repeat' (first | exact trivial | exact gd_t | exact gd_f | exact .inl hY | exact leb rfl | exact Int.le_refl _ | exact (by decide : (0 : Int) < ((3 : Nat) : Int)) | exact (by decide : (0 : Int) ≤ 1) | exact (by decide : (1 : Int) < ((3 : Nat) : Int)) | exact (by decide : (0 : Int) ≤ 2) | exact (by decide : (2 : Int) < ((3 : Nat) : Int)) | exact (fun _ => rfl) | intro _ | apply And.intro | assumption | exact rfl | exact gd_t (by assumption) | exact gd_f (by assumption) | exact gd_a (by assumption) (by assumption))) ?_
    refine ev_seq (ev_rs [] rfl (by repeat' (first | exact trivial | exact gd_t | exact gd_f | exact (fun _ => rfl) | intro _ | apply And.intro | assumption | exact rfl | exact gd_t (by assumption) | exact gd_f (by assumption) | exact gd_a (by assumption) (by assumption))) (ev_cf rfl (ev_sk ?_)))
    refine ev_rs [.tup 3 (three (u64s g) (u64s s) (u64s t))] rfl ⟨.inl hE, trivial⟩ ?_
    by_cases h0 : x.length = 0 ∧ y.length = 0
    · have e := hE0 h0.1 h0.2
      cases e
      have hc : (bif decide (((x.length : Int) - 1) < 0) then decide (((y.length : Int) - 1) < 0) else false) = true := by
        rw [decide_eq_true (by omega), decide_eq_true (by omega)]; rfl
      refine ev_seq (ev_rs [i64 ((x.length : Int) - 1), i64 ((y.length : Int) - 1)] rfl (by repeat' (first | exact trivial | exact gd_t | exact gd_f | exact .inl hDx | exact .inl hDy | exact (fun _ => rfl) | intro _ | apply And.intro | assumption | exact rfl | exact gd_t (by assumption) | exact gd_f (by assumption) | exact gd_a (by assumption) (by assumption))) (ev_ct (congrArg (fun z => AV.p (PV.val (.bool z))) hc) ?_))
      exact ev_rs [Vinc.bool true] rfl (by repeat' (first | exact trivial | exact gd_t | exact gd_f | exact .inl awake_spec | exact (fun _ => rfl) | intro _ | apply And.intro | assumption | exact rfl | exact gd_t (by assumption) | exact gd_f (by assumption) | exact gd_a (by assumption) (by assumption))) (ev_ret (ret1 (fz_p (PLe.of_eq rfl))))
    · have h0' : 0 < x.length ∨ 0 < y.length := by omega
      obtain ⟨z1, z2, z3, z4, z5, z6, z7, z8⟩ := hBz h0'
      have hc : (bif decide (((x.length : Int) - 1) < 0) then decide (((y.length : Int) - 1) < 0) else false) = false := by
        rcases h0' with h1 | h1
        · rw [decide_eq_false (by omega)]; rfl
        · rw [decide_eq_false (p := ((y.length : Int) - 1) < 0) (by omega)]; cases decide (((x.length : Int) - 1) < 0) <;> rfl
      refine ev_seq (ev_rs [i64 ((x.length : Int) - 1), i64 ((y.length : Int) - 1)] rfl (by repeat' (first | exact trivial | exact gd_t | exact gd_f | exact .inl hDx | exact .inl hDy | exact (fun _ => rfl) | intro _ | apply And.intro | assumption | exact rfl | exact gd_t (by assumption) | exact gd_f (by assumption) | exact gd_a (by assumption) (by assumption))) (ev_cf (congrArg (fun z => AV.p (PV.val (.bool z))) hc) (ev_sk ?_)))
      obtain ⟨l1, l2, l3⟩ := hEl
      have ls := length_normN p s
      have lt := length_normN p t
      have hM1 := Mul_way0 hm s x (by omega) (by omega)
      have hM2 := Mul_way0 hm t y (by omega) (by omega)
      rw [zx.norm_id hp0] at hM1
      rw [zy.norm_id hp0] at hM2
      have hgn := z1.norm_id hp0
      have hQ1 := DivM_ok hm x g (by omega) (by omega) (by rw [hgn]; exact z2)
      have hQ2 := DivM_ok hm y g (by omega) (by omega) (by rw [hgn]; exact z2)
      have hQ3 := DivM_ok hm g c (by omega) (by omega) z4
      rw [zx.norm_id hp0, hgn, z5] at hQ1
      rw [zy.norm_id hp0, hgn, z6] at hQ2
      rw [hgn, z7] at hQ3
      have lm1 := timesN_len p (normN p s) x
      have lm1' : (timesN p (normN p s) x).length ≤ 200 := by split at lm1 <;> omega
      have lm2 := timesN_len p (normN p t) y
      have lm2' : (timesN p (normN p t) y).length ≤ 200 := by split at lm2 <;> omega
      have hAd := UAdd_spec hm (timesN p (normN p s) x) (timesN p (normN p t) y) (by omega) (by omega)
      rw [z8] at hAd
      have hS := same_t g (by omega)
      generalize timesN p (normN p s) x = m1 at *
      generalize timesN p (normN p t) y = m2 at *
      generalize (divN (minv p) p x g).1 = q1 at *
      generalize (divN (minv p) p y g).1 = q2 at *
      generalize (divN (minv p) p g (normN p c)).1 = q3 at *
      refine ev_rs [.tup 2 (two (u64s m1) (i64 0))] rfl ⟨.inl hM1, trivial⟩ ?_
      refine ev_rs [.tup 2 (two (u64s m2) (i64 0))] rfl ⟨.inl hM2, trivial⟩ ?_
      refine ev_rs [.tup 3 (three (u64s q1) (u64s []) (i64 0))] rfl ⟨.inl hQ1, trivial⟩ ?_
      refine ev_rs [.tup 3 (three (u64s q2) (u64s []) (i64 0))] rfl ⟨.inl hQ2, trivial⟩ ?_
      refine ev_rs [.tup 3 (three (u64s q3) (u64s []) (i64 0))] rfl (by repeat' (first | exact trivial | exact gd_t | exact gd_f | exact .inl hQ3 | exact leb rfl | exact Int.le_refl _ | exact (by decide : (0 : Int) < ((3 : Nat) : Int)) | exact (by decide : (0 : Int) ≤ 1) | exact (by decide : (1 : Int) < ((3 : Nat) : Int)) | exact (by decide : (0 : Int) ≤ 2) | exact (by decide : (2 : Int) < ((3 : Nat) : Int)) | exact (fun _ => rfl) | intro _ | apply And.intro | assumption | exact rfl | exact gd_t (by assumption) | exact gd_f (by assumption) | exact gd_a (by assumption) (by assumption))) ?_
      have e1 : IntKind.wrap .i64 ((g.length : Int) - 1) = ((g.length - 1 : Nat) : Int) := by rw [wrapI _ (by omega) (by omega)]; omega
      have hi1 : (IntKind.wrap .i64 ((g.length : Int) - 1)).toNat < g.length := by rw [e1]; omega
      have hi2 : (0 : Int) ≤ IntKind.wrap .i64 ((g.length : Int) - 1) := by rw [e1]; omega
      have hi3 : IntKind.wrap .i64 ((g.length : Int) - 1) < (g.length : Int) := by rw [e1]; omega
      have hz3 : ((g.getD (IntKind.wrap .i64 ((g.length : Int) - 1)).toNat 0 : Nat) : Int) = 1 := by rw [e1, Int.toNat_natCast, z3]; rfl
      have key : ∀ q1 q2 : Bool, q1 = true → q2 = true → (bif (bif (bif true then q1 else false) then q2 else false) then true else false) = true := by decide
      exact ev_rs [u64s g, Vinc.bool true, Vinc.bool true] rfl (by repeat' (first | exact trivial | exact gd_t | exact gd_f | exact .inl hAd | exact .inl hS | exact .inl awake_spec | exact hi1 | exact hi2 | exact hi3 | exact (fun _ => rfl) | intro _ | apply And.intro | assumption | exact rfl | exact gd_t (by assumption) | exact gd_f (by assumption) | exact gd_a (by assumption) (by assumption))) (ev_ret (ret1 (fz_p (PLe.of_eq (congrArg Vinc.bool (key (decide ((g.length : Int) > 0)) (((g.getD (IntKind.wrap .i64 ((g.length : Int) - 1)).toNat 0 : Nat) : Int) == 1) (decide_eq_true (by omega)) (beq_iff_eq.mpr hz3)))))))
  · refine ev_rs [.tup 2 (two nilP (Vinc.bool true))] rfl ⟨.inl (field_f hp hA), trivial⟩ ?_
    refine ev_seq (ev_rs [] rfl trivial (ev_cf rfl (ev_sk ?_)))
    refine ev_seq (ev_rs [] rfl (by repeat' (first | exact trivial | exact gd_t | exact gd_f | exact leb rfl | exact Int.le_refl _ | exact (by decide : (0 : Int) < ((3 : Nat) : Int)) | exact (by decide : (0 : Int) ≤ 1) | exact (by decide : (1 : Int) < ((3 : Nat) : Int)) | exact (by decide : (0 : Int) ≤ 2) | exact (by decide : (2 : Int) < ((3 : Nat) : Int)) | exact (fun _ => rfl) | intro _ | apply And.intro | assumption | exact rfl | exact gd_t (by assumption) | exact gd_f (by assumption) | exact gd_a (by assumption) (by assumption))) (ev_ct rfl ?_))
    exact ev_rs [Vinc.bool true] rfl ⟨.inl awake_spec, trivial⟩ (ev_ret (ret1 (fz_p (PLe.refl _))))

end Go.Proofs
