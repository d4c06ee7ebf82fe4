/- One operation in its region; a region without a drawn order. -/
import Derived.Test.YtmpfgaebmdbdeaaGreatDoorVincK
set_option linter.unusedSimpArgs false
set_option linter.unusedVariables false
namespace Vinc
open Go Go.RowKit

variable {c : Cx} {σ : St} {L : Locs} {a : Act} {w : World}

theorem core_sound (I : Inv c σ L a w) (V : Operand → AV) (o : Oper) (hV : VOk w (σ.ok c L w) L V a.eval o.op) {d : Nat} {fr : Bool} (hd : fr = true → σ.u d = false) {r : PV} {x : AV} {hw : List (Nat × Option Ob)} {C : Option Prop}
    (h : core c.toPr V σ.h fr d r o.op = some ⟨x, hw, C⟩) (hC : CP C) {K : Act → World → Prop} {Q : Exit → Act → World → Prop}
    (hK : ∀ v w' L', Inv c ⟨σ.t, applyH hw σ.h, applyU hw σ.u⟩ L' a w' → RepA w' ((⟨σ.t, applyH hw σ.h, applyU hw σ.u⟩ : St).ok c L' w') L' x v → K (a.put o.dst v) w') : o.wp c.P a w K Q := by
  unfold core at h
  split at h
  · rename_i out hz
    obtain rfl := Option.some.inj h
    exact coreZ_sound I V o hV hd hz hC hK
  split at h
  · rename_i x' C' hv
    simp only [Option.some.injEq, Out.mk.injEq] at h
    obtain ⟨rfl, rfl, rfl⟩ := h
    obtain ⟨v, h1, h2⟩ := coreV_sound I V o hV hv hC
    unfold Oper.wp
    rw [h1, Oper.upon_value]
    exact hK v w L I h2
  · split at h
    · rename_i out hh
      obtain rfl := Option.some.inj h
      obtain ⟨nx, v, w', L', h1, h2, h3, h4⟩ := coreH_sound I V o hV hd hh hC
      unfold Oper.wp
      rw [h1]
      rcases h2 with rfl | ⟨rfl, rfl⟩
      · rw [Oper.upon_value]; exact hK v w' L' h3 h4
      · rw [Oper.upon_skip]; exact hK undef w' L' h3 h4
    · split at h
      · rename_i x' C' hc
        simp only [Option.some.injEq, Out.mk.injEq] at h
        obtain ⟨rfl, rfl, rfl⟩ := h
        exact coreC_sound I V o hV hc hC fun v w' I' hr => hK v w' L I' hr
      · cases h

theorem putS_sound {t : Nat → AV} {h0 : Nat → Option Ob} {u : Nat → Bool} {dst : Option Nat} {x : AV} {hw : List (Nat × Option Ob)} {C : Option Prop} {s : S3}
    (h : putS c.N dst t h0 u ⟨x, hw, C⟩ = some s) {v : Value} (I : Inv c ⟨t, applyH hw h0, applyU hw u⟩ L a w) (hr : RepA w ((⟨t, applyH hw h0, applyU hw u⟩ : St).ok c L w) L x v) :
    Inv c ⟨s.t, s.h, s.u⟩ L (a.put dst v) w ∧ s.C = C := by
  unfold putS at h
  cases dst with
  | none =>
    simp only at h
    split at h
    · cases h; exact ⟨I, rfl⟩
    · cases h; exact ⟨I, rfl⟩
  | some d =>
    simp only at h
    obtain ⟨hlt, h⟩ := bif_some h
    have hlt : d < c.N := Nat.blt_eq.mp hlt
    rw [force_eq] at h
    split at h
    · cases h; exact ⟨I.put hlt hr, rfl⟩
    · cases h; exact ⟨I.put hlt hr, rfl⟩

theorem CP_andO {p : Prop} {q : Option Prop} : CP (andO p q) ↔ p ∧ CP q := by
  cases q <;> simp [andO, CP]

theorem CP_guardC {b : Bool} {G C : Option Prop} : CP (guardC b G C) ↔ (b = true → CP G ∧ CP C) := by
  cases G <;> cases C <;> simp [guardC, CP]

theorem gds_acc {V : Operand → AV} : ∀ {ys : List Operand} {acc : Option Prop}, CP (gds V ys acc) → CP acc
  | [], _, h => h
  | y :: ys, acc, h => by
    unfold gds at h
    split at h
    · exact (CP_andO.mp (gds_acc h)).2
    · exact gds_acc h

theorem ungd_rep {ok : Nat → Prop} {V : Operand → AV} {ρ : Operand → Value} : ∀ {ys : List Operand} {acc : Option Prop}, CP (gds V ys acc) → (∀ y ∈ ys, RepA w ok L (V y) (ρ y)) → ∀ y ∈ ys, RepA w ok L (ungd (V y)) (ρ y)
  | [], _, _, _, y, hy => by cases hy
  | z :: ys, acc, hg, hr, y, hy => by
    unfold gds at hg
    cases hy with
    | head =>
      have h0 := hr z (by simp)
      split at hg
      · rename_i b x hx
        rw [hx] at h0 ⊢
        exact h0.1 (CP_andO.mp (gds_acc hg)).1
      · rename_i hne
        cases hx : V z with
        | gd b x => exact absurd hx (hne b x)
        | _ => rw [hx] at h0; exact h0
    | tail _ hm =>
      split at hg
      · exact ungd_rep hg (fun y hy => hr y (by simp [hy])) y hm
      · exact ungd_rep hg (fun y hy => hr y (by simp [hy])) y hm

theorem vg_rep {ok : Nat → Prop} {V : Operand → AV} {ρ : Operand → Value} {p : Bool} {ys : List Operand} (h : CP (gds V (needs p ys) none)) (hr : ∀ y ∈ ys, RepA w ok L (V y) (ρ y)) : ∀ y ∈ ys, RepA w ok L (Vg p V y) (ρ y) := by
  cases p with
  | true => exact hr
  | false => exact ungd_rep h hr

theorem guardOf_yielded {gops : Array Oper} {j : Nat} {want b : Bool} (I : Inv c σ L a w) (h : guardOf gops σ.t j want = some b) : (yielded gops a.tmps j == some want) = b := by
  unfold guardOf at h
  split at h
  · rename_i o ho
    split at h
    · rename_i d hd
      have ht := I.tmps d
      have hq : ∀ v, a.tmps.getD d undef = v → v ≠ undef → a.tmps[d]? = some v := fun v hv hne => by
        rw [Array.getD_eq_getD_getElem?] at hv
        cases hq : a.tmps[d]? with
        | none => rw [hq] at hv; exact absurd hv.symm hne
        | some q => rw [hq] at hv; exact congrArg some hv
      have hy : yielded gops a.tmps j = match a.tmps[d]? with
          | some (.bool b) => some b
          | _ => none := by
        unfold yielded
        rw [ho]
        simp only [Option.bind_some, hd]
        rfl
      cases hx : σ.t d with
      | p x =>
        rw [hx] at h ht
        cases x with
        | val v =>
          cases v with
          | bool b' =>
            have hb : some (b' == want) = some b := h
            have hv := hq _ ht (by intro e; cases e)
            rw [hy, hv, ← Option.some.inj hb]
            cases b' <;> cases want <;> rfl
          | _ => cases h
        | _ => cases h
      | gd g y =>
        rw [hx] at h ht
        cases y with
        | p x =>
          cases x with
          | val v =>
            cases v with
            | bool b' =>
              have hb : some (g && (b' == want)) = some b := h
              cases g with
              | true =>
                have hv := hq _ (ht.1 rfl) (by intro e; cases e)
                rw [hy, hv, ← Option.some.inj hb]
                cases b' <;> cases want <;> rfl
              | false =>
                have hv : a.tmps.getD d undef = undef := ht.2 rfl
                rw [hy, ← Option.some.inj hb]
                rw [Array.getD_eq_getD_getElem?] at hv
                cases hq2 : a.tmps[d]? with
                | none => rfl
                | some q =>
                  rw [hq2] at hv
                  have : q = undef := hv
                  subst this
                  rfl
            | _ => cases h
          | _ => cases h
        | _ => cases h
      | _ => rw [hx] at h; cases h
    · cases h
  · cases h

theorem stp_sound (I : Inv c σ L a w) {gops : Array Oper} {o : Oper} {r : PV} {s : S3} (h : stp c.toPr c.N gops o r σ.t σ.h σ.u = some s) (hC : CP s.C) {i : Nat} (hi : gops[i]? = some o)
    {K : Act → World → Prop} {Q : Exit → Act → World → Prop} (hK : ∀ a' w' L', Inv c ⟨s.t, s.h, s.u⟩ L' a' w' → K a' w') : wpOp c.P gops Q i K a w := by
  unfold wpOp
  simp only [hi]
  have hV : VOk w (σ.ok c L w) L (evT c.toPr σ.t) a.eval o.op := fun y _ => I.ev y
  unfold stp at h
  split at h
  · rename_i hg
    have hw : Region.wanted o (yielded gops a.tmps) = true := by simp [Region.wanted, hg]
    rw [if_pos hw]
    left
    split at h
    · rename_i out hc
      obtain ⟨x, hws, C⟩ := out
      have hsC : s.C = C := by
        unfold putS at h
        cases hdst : o.dst with
        | none =>
          rw [hdst] at h
          simp only at h
          split at h <;> (cases h; rfl)
        | some d =>
          rw [hdst] at h
          simp only at h
          obtain ⟨_, h⟩ := bif_some h
          rw [force_eq] at h
          split at h <;> (cases h; rfl)
      refine core_sound I _ o hV (d := o.dst.getD 0) (fr := freshOf σ.u o.dst) (fun hf => ?_) hc (hsC ▸ hC) (fun v w' L' I' hr => ?_)
      · cases hdst : o.dst with
        | none => rw [hdst] at hf; cases hf
        | some d => rw [hdst] at hf; simpa [freshOf] using hf
      · exact hK _ _ L' (putS_sound h I' hr).1
    · cases h
  · rename_i j want hg
    split at h
    · rename_i b hgo
      have hy := guardOf_yielded I hgo
      have hwb : Region.wanted o (yielded gops a.tmps) = b := by simp only [Region.wanted, hg]; exact hy
      split at h
      · rename_i x C hc
        rw [force_eq] at h
        have hsC : s.C = guardC b (gds (evT c.toPr σ.t) (needs (isPick o.op) o.op.operands.toList) none) C := by
          unfold putS at h
          cases hdst : o.dst with
          | none => rw [hdst] at h; cases h; rfl
          | some d =>
            rw [hdst] at h
            simp only at h
            obtain ⟨_, h⟩ := bif_some h
            rw [force_eq] at h
            cases h; rfl
        rw [hsC] at hC
        cases b with
        | false =>
          rw [hwb]
          simp only [Bool.false_eq_true, if_false]
          exact hK _ _ L (putS_sound (v := undef) h I ⟨fun hb => (by cases hb), fun _ => rfl⟩).1
        | true =>
          obtain ⟨hgd, hCC⟩ := CP_guardC.mp hC rfl
          rw [hwb]
          simp only [if_true]
          left
          refine core_sound I _ o (fun y hy => vg_rep hgd (fun y _ => I.ev y) y hy) (d := 0) (fr := false) (fun hf => by cases hf) hc hCC (fun v w' L' I' hr => ?_)
          exact hK _ _ L' (putS_sound h I' ⟨fun _ => hr, fun h => by cases h⟩).1
      · cases h
      · have hb := bif_some h
        clear h
        obtain ⟨hbt, h⟩ := hb
        subst hbt
        split at h
        · rename_i x hws C hc
          have hsC : s.C = guardC true (gds (evT c.toPr σ.t) (needs (isPick o.op) o.op.operands.toList) none) C := by
            unfold putS at h
            cases hdst : o.dst with
            | none =>
              rw [hdst] at h
              simp only at h
              split at h <;> (cases h; rfl)
            | some d =>
              rw [hdst] at h
              simp only at h
              obtain ⟨_, h⟩ := bif_some h
              rw [force_eq] at h
              split at h <;> (cases h; rfl)
          rw [hsC] at hC
          obtain ⟨hgd, hCC⟩ := CP_guardC.mp hC rfl
          rw [hwb]
          simp only [if_true]
          left
          refine core_sound I _ o (fun y hy => vg_rep hgd (fun y _ => I.ev y) y hy) (d := o.dst.getD 0) (fr := freshOf σ.u o.dst) (fun hf => ?_) hc hCC (fun v w' L' I' hr => ?_)
          · cases hdst : o.dst with
            | none => rw [hdst] at hf; cases hf
            | some d => rw [hdst] at hf; simpa [freshOf] using hf
          · exact hK _ _ L' (putS_sound h I' hr).1
        · cases h
    · cases h

theorem zipO_fst : ∀ (os : List Oper) (rs : List PV), (zipO os rs).map (·.1) = os
  | [], _ => rfl
  | o :: os, rs => by
    unfold zipO
    cases isUserCall o.op
    · simp [zipO_fst os rs]
    · cases rs <;> simp [zipO_fst os]

theorem runF_acc {pr : Pr} {N : Nat} {gops : Array Oper} : ∀ {l : List (Oper × PV)} {t : Nat → AV} {h : Nat → Option Ob} {u : Nat → Bool} {acc : Prop} {σ' : St} {C : Prop}, runF pr N gops l t h u acc = some (σ', C) → C → acc
  | [], t, h, u, acc, σ', C, hr, hC => by cases hr; exact hC
  | (o, r) :: l, t, h, u, acc, σ', C, hr, hC => by
    unfold runF at hr
    split at hr
    · exact runF_acc hr hC
    · exact (runF_acc hr hC).2
    · cases hr

theorem runF_sound {gops : Array Oper} {Q : Exit → St → Prop} : ∀ {l : List (Oper × PV)} {is : List Nat} {t : Nat → AV} {h : Nat → Option Ob} {u : Nat → Bool} {acc : Prop} {σ' : St} {C : Prop} {L : Locs} {a : Act} {w : World},
    runF c.toPr c.N gops l t h u acc = some (σ', C) → C → Q .normal σ' → is.length = l.length → (∀ k, k < is.length → ∃ p, l[k]? = some p ∧ (is[k]?).bind (gops[·]?) = some p.1) → Inv c ⟨t, h, u⟩ L a w →
    wpOps c.P gops (Post c Q) is a w
  | [], [], t, h, u, acc, σ', C, L, a, w, hr, hC, hQ, _, _, I => by
    cases hr
    exact ⟨_, L, hQ, I⟩
  | [], _ :: _, _, _, _, _, _, _, _, _, _, _, _, _, hl, _, _ => by simp at hl
  | _ :: _, [], _, _, _, _, _, _, _, _, _, _, _, _, hl, _, _ => by simp at hl
  | (o, r) :: l, i :: is, t, h, u, acc, σ', C, L, a, w, hr, hC, hQ, hl, hm, I => by
    rw [wpOps_cons]
    have hi : gops[i]? = some o := by
      obtain ⟨p, hp, hb⟩ := hm 0 (by simp)
      simp at hp hb
      subst hp
      exact hb
    have hm' : ∀ k, k < is.length → ∃ p, l[k]? = some p ∧ (is[k]?).bind (gops[·]?) = some p.1 := by
      intro k hk
      obtain ⟨p, hp, hb⟩ := hm (k + 1) (by simp; omega)
      exact ⟨p, by simpa using hp, by simpa using hb⟩
    have hl' : is.length = l.length := by simpa using hl
    unfold runF at hr
    split at hr
    · rename_i t' h' u' hs
      exact stp_sound (σ := ⟨t, h, u⟩) I hs trivial hi fun a' w' L' I' => runF_sound hr hC hQ hl' hm' I'
    · rename_i t' h' u' C' hs
      exact stp_sound (σ := ⟨t, h, u⟩) I hs (runF_acc hr hC).1 hi fun a' w' L' I' => runF_sound hr hC hQ hl' hm' I'
    · cases hr

theorem region_index {gops : Array Oper} {l : List (Oper × PV)} (h : l.map (·.1) = gops.toList) : (List.range gops.size).length = l.length ∧
    ∀ k, k < (List.range gops.size).length → ∃ p, l[k]? = some p ∧ ((List.range gops.size)[k]?).bind (gops[·]?) = some p.1 := by
  have hlen : l.length = gops.size := by rw [← Array.length_toList, ← h, List.length_map]
  refine ⟨by simp [hlen], fun k hk => ?_⟩
  have hk : k < gops.size := by simpa using hk
  refine ⟨l[k], List.getElem?_eq_getElem (by omega), ?_⟩
  have e1 : (List.range gops.size)[k]? = some k := by simp [hk]
  have e2 : gops.toList[k]? = some l[k].1 := by rw [← h, List.getElem?_map, List.getElem?_eq_getElem (by omega)]; rfl
  rw [e1, Option.bind_some, ← Array.getElem?_toList, e2]

/-- A REGION WITHOUT A DRAWN ORDER. 'rs': what its calls answer, in the order of the text. -/
theorem ev_region {id : Nat} {ops : Array Oper} {Q : Exit → St → Prop} (rs : List PV) {σ' : St} {C : Prop}
    (h : runF c.toPr c.N ops (zipO ops.toList rs) σ.t σ.h σ.u True = some (σ', C)) (hC : C) (hQ : Q .normal σ') : Ev c (.region id ops false) Q σ := fun L a w I =>
  wp_region (runF_sound h hC hQ (region_index (zipO_fst _ _)).1 (region_index (zipO_fst _ _)).2 I)

end Vinc
