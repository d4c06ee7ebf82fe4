/- The theorem on regions that draw their order. -/
import Derived.Test.YtmpfgaebmdbdeaaGreatDoorVincD
set_option linter.unusedSimpArgs false
set_option linter.unusedVariables false
namespace Vinc
open Go Go.RowKit

variable {c : Cx} {σ : St} {L : Locs} {a : Act} {w : World}

/-- A run of some operations, one behind the other. 'F': what each touches. -/
def RunL (pr : Pr) (N : Nat) (gops : Array Oper) (orc : Nat → PV) (F : Nat → Foot) (σ' : St) : List Nat → (Nat → AV) → (Nat → Option Ob) → (Nat → Bool) → Prop
  | [], t, h, u => σ' = ⟨t, h, u⟩
  | i :: is, t, h, u => ∃ o x hw C, gops[i]? = some o ∧ outS pr N gops o (orc i) t h u = some ⟨x, hw, C⟩ ∧ CP C ∧ footOf pr o t hw = F i ∧
      RunL pr N gops orc F σ' is (putT o.dst x t) (applyH hw h) (applyU hw u)

def edgeTo (k : Nat) (o : Oper) : Bool := o.after.toList.any fun e => Region.binds .any e && Nat.beq e.on k

theorem RunL.front {pr : Pr} {N : Nat} {gops : Array Oper} {orc : Nat → PV} {F : Nat → Foot} {σ' : St} {i : Nat} {q : List Nat} :
    ∀ (p : List Nat) (t : Nat → AV) (h : Nat → Option Ob) (u : Nat → Bool), (∀ k ∈ p, ∀ ok oi, gops[k]? = some ok → gops[i]? = some oi → ok.apart gops oi = true ∧ footsApart (F k) (F i) = true) →
    RunL pr N gops orc F σ' (p ++ i :: q) t h u → RunL pr N gops orc F σ' (i :: (p ++ q)) t h u
  | [], _, _, _, _, hr => hr
  | k :: p, t, h, u, hp, hr => by
    obtain ⟨ok, x1, hw1, C1, hk, ho1, hC1, hf1, hr⟩ := hr
    obtain ⟨oi, x2, hw2, C2, hi, ho2, hC2, hf2, hr⟩ := RunL.front p _ _ _ (fun k hk => hp k (by simp [hk])) hr
    obtain ⟨ha, hft⟩ := hp k (by simp) ok oi hk hi
    rw [← hf1, ← hf2] at hft
    obtain ⟨s1, s2, s3, s4, s5, s6, s7⟩ := swap ho1 ho2 ha hft
    refine ⟨oi, x2, hw2, C2, hi, s1, hC2, s6.trans hf2, ok, x1, hw1, C1, hk, s2, hC1, s7.trans hf1, ?_⟩
    rw [s3, s4, s5]
    exact hr

theorem ready_mem {gops : Array Oper} {listed : Array Bool} {i : Nat} : i ∈ Region.ready .any gops listed ↔
    i < gops.size ∧ listed.getD i true = false ∧ ((gops[i]?).map (·.after.all fun e => !Region.binds .any e || listed.getD e.on false)).getD false = true := by
  unfold Region.ready
  simp only [List.mem_filter, List.mem_range, Bool.and_eq_true, Bool.not_eq_true']

theorem wpAny_of {gops : Array Oper} {orc : Nat → PV} {F : Nat → Foot} {σ' : St} {Q : Exit → St → Prop} (hQ : Q .normal σ')
    (hpairs : ∀ k i ok oi, k < i → gops[k]? = some ok → gops[i]? = some oi → edgeTo k oi = true ∨ (ok.apart gops oi = true ∧ footsApart (F k) (F i) = true))
    (hback : ∀ i o, gops[i]? = some o → ∀ e ∈ o.after.toList, Region.binds .any e = true → e.on < i) :
    ∀ (fuel : Nat) (rem : List Nat) (listed : Array Bool) (t : Nat → AV) (h : Nat → Option Ob) (u : Nat → Bool) (L : Locs) (a : Act) (w : World), rem.length ≤ fuel → rem.Pairwise (· < ·) →
    (∀ i, i ∈ rem ↔ i < gops.size ∧ listed.getD i true = false) → listed.size = gops.size → RunL c.toPr c.N gops orc F σ' rem t h u → Inv c ⟨t, h, u⟩ L a w → wpAny c.P .any gops (Post c Q) fuel listed a w := by
  intro fuel
  induction fuel with
  | zero =>
    intro rem listed t h u L a w hl hp hm hs hr I
    obtain rfl : rem = [] := List.eq_nil_of_length_eq_zero (by omega)
    refine ⟨List.eq_nil_iff_forall_not_mem.mpr fun i hi => ?_, ?_⟩
    · obtain ⟨h1, h2, _⟩ := ready_mem.mp hi
      have := (hm i).mpr ⟨h1, h2⟩
      cases this
    · have hr : σ' = _ := hr
      subst hr
      exact ⟨_, L, hQ, I⟩
  | succ fuel ih =>
    intro rem listed t h u L a w hl hp hm hs hr I
    refine ⟨fun hnil => ?_, fun i hi => ?_⟩
    · cases rem with
      | nil =>
        have hr : σ' = _ := hr
        subst hr
        exact ⟨_, L, hQ, I⟩
      | cons i0 rest =>
        exfalso
        have h0 := (hm i0).mp (by simp)
        have : i0 ∈ Region.ready .any gops listed := by
          refine ready_mem.mpr ⟨h0.1, h0.2, ?_⟩
          have hg : gops[i0]? = some gops[i0] := Array.getElem?_eq_getElem h0.1
          rw [hg]
          simp only [Option.map_some, Option.getD_some]
          rw [← Array.all_toList]
          refine List.all_eq_true.mpr fun e he => ?_
          cases hb : Region.binds .any e with
          | false => rfl
          | true =>
            have hlt := hback i0 _ hg e he hb
            have hnot : e.on ∉ i0 :: rest := by
              intro hmem
              cases hmem with
              | head => omega
              | tail _ hmem => have := List.rel_of_pairwise_cons hp hmem; omega
            have hlt2 : e.on < gops.size := by omega
            have : ¬ listed.getD e.on true = false := fun hf => hnot ((hm e.on).mpr ⟨hlt2, hf⟩)
            have hls : e.on < listed.size := by omega
            rw [Array.getD_eq_getD_getElem?, Array.getElem?_eq_getElem hls] at this ⊢
            simpa using this
        rw [hnil] at this
        cases this
    · obtain ⟨h1, h2, h3⟩ := ready_mem.mp hi
      have hmem := (hm i).mpr ⟨h1, h2⟩
      obtain ⟨p, q, rfl⟩ := List.append_of_mem hmem
      have hp1 := List.pairwise_append.mp hp
      have hfront := RunL.front p t h u (fun k hk ok oi hgk hgi => by
        have hki : k < i := hp1.2.2 k hk i (by simp)
        rcases hpairs k i ok oi hki hgk hgi with he | hh
        · exfalso
          rw [hgi] at h3
          simp only [Option.map_some, Option.getD_some] at h3
          rw [← Array.all_toList] at h3
          obtain ⟨e, he1, he2⟩ := List.any_eq_true.mp he
          rw [Bool.and_eq_true] at he2
          have hon : e.on = k := Nat.eq_of_beq_eq_true he2.2
          have := List.all_eq_true.mp h3 e he1
          rw [he2.1, hon] at this
          have hk2 := ((hm k).mp (by simp [hk]))
          have hls : k < listed.size := by omega
          rw [Array.getD_eq_getD_getElem?, Array.getElem?_eq_getElem hls] at this
          have hk3 := hk2.2
          rw [Array.getD_eq_getD_getElem?, Array.getElem?_eq_getElem hls] at hk3
          simp at this hk3
          rw [hk3] at this; cases this
        · exact hh) hr
      obtain ⟨oi, x, hw, C, hgi, ho, hC, hf, hr'⟩ := hfront
      have hstp : stp c.toPr c.N gops oi (orc i) t h u = some ⟨putT oi.dst x t, applyH hw h, applyU hw u, C⟩ := by rw [stp_eq, ho]
      refine stp_sound (σ := ⟨t, h, u⟩) I hstp hC hgi fun a' w' L' I' => ih (p ++ q) _ _ _ _ L' a' w' (by simp at hl ⊢; omega) ?_ (fun j => ?_) (by simp [hs]) hr' I'
      · refine List.pairwise_append.mpr ⟨hp1.1, (List.pairwise_cons.mp hp1.2.1).2, fun x hx y hy => hp1.2.2 x hx y (by simp [hy])⟩
      · have hji : j ∈ p ++ q ↔ j ∈ p ++ i :: q ∧ j ≠ i := by
          constructor
          · intro hj
            rcases List.mem_append.mp hj with hj | hj
            · exact ⟨by simp [hj], fun e => by have := hp1.2.2 j hj i (by simp); omega⟩
            · exact ⟨by simp [hj], fun e => by have := (List.pairwise_cons.mp hp1.2.1).1 j hj; omega⟩
          · rintro ⟨hj, hne⟩
            rcases List.mem_append.mp hj with hj | hj
            · exact List.mem_append_left _ hj
            · cases hj with
              | head => exact absurd rfl hne
              | tail _ hj => exact List.mem_append_right _ hj
        rw [hji, hm j]
        have hset : (listed.setIfInBounds i true).getD j true = if j = i then true else listed.getD j true := by
          rw [Array.getD_eq_getD_getElem?, Array.getD_eq_getD_getElem?, Array.getElem?_setIfInBounds]
          by_cases hij : j = i
          · subst hij
            rw [if_pos rfl, if_pos rfl, if_pos (by omega)]; rfl
          · rw [if_neg (fun e => hij e.symm), if_neg hij]
        rw [hset]
        by_cases hij : j = i
        · subst hij; simp
        · simp [hij]

/-! ### the check, by computation -/

def feet (pr : Pr) (N : Nat) (gops : Array Oper) : List (Oper × PV) → (Nat → AV) → (Nat → Option Ob) → (Nat → Bool) → Option (List Foot)
  | [], _, _, _ => some []
  | (o, r) :: l, t, h, u => match outS pr N gops o r t h u with
    | some ⟨x, hw, _⟩ => force x fun x => match feet pr N gops l (putT o.dst x t) (applyH hw h) (applyU hw u) with
      | some fs => some (footOf pr o t hw :: fs)
      | none => none
    | none => none

def pairOk (gops : Array Oper) (i : Nat) (o : Oper) (f : Foot) : List Oper → List Foot → Bool
  | o' :: os, f' :: fs => (edgeTo i o' || (o.apart gops o' && footsApart f f')) && pairOk gops i o f os fs
  | _, _ => true

def pairsOk (gops : Array Oper) : Nat → List Oper → List Foot → Bool
  | i, o :: os, f :: fs => (o.after.toList.all fun e => !Region.binds .any e || Nat.blt e.on i) && pairOk gops i o f os fs && pairsOk gops (i + 1) os fs
  | _, _, _ => true

def drawOk (pr : Pr) (N : Nat) (gops : Array Oper) (rs : List PV) (t : Nat → AV) (h : Nat → Option Ob) (u : Nat → Bool) : Bool :=
  match feet pr N gops (zipO gops.toList rs) t h u with
  | some fs => pairsOk gops 0 gops.toList fs
  | none => false

theorem pairOk_get {gops : Array Oper} {i : Nat} {o : Oper} {f : Foot} : ∀ {os : List Oper} {fs : List Foot}, pairOk gops i o f os fs = true → ∀ (k : Nat) (o' : Oper) (f' : Foot), os[k]? = some o' → fs[k]? = some f' →
    edgeTo i o' = true ∨ (o.apart gops o' = true ∧ footsApart f f' = true)
  | [], _, _, k, _, _, h1, _ => by simp at h1
  | _ :: _, [], _, k, _, _, _, h2 => by simp at h2
  | o1 :: os, f1 :: fs, h, 0, o', f', h1, h2 => by
    simp at h1 h2
    subst h1; subst h2
    unfold pairOk at h
    rw [Bool.and_eq_true] at h
    have := h.1
    rw [Bool.or_eq_true, Bool.and_eq_true] at this
    exact this
  | o1 :: os, f1 :: fs, h, k + 1, o', f', h1, h2 => by
    unfold pairOk at h
    rw [Bool.and_eq_true] at h
    exact pairOk_get h.2 k o' f' (by simpa using h1) (by simpa using h2)

theorem pairsOk_get {gops : Array Oper} : ∀ {n : Nat} {os : List Oper} {fs : List Foot}, pairsOk gops n os fs = true → os.length = fs.length →
    (∀ (i : Nat) (o : Oper), os[i]? = some o → ∀ e ∈ o.after.toList, Region.binds .any e = true → e.on < n + i) ∧
    ∀ (k i : Nat) (ok oi : Oper) (fk fi : Foot), k < i → os[k]? = some ok → os[i]? = some oi → fs[k]? = some fk → fs[i]? = some fi → edgeTo (n + k) oi = true ∨ (ok.apart gops oi = true ∧ footsApart fk fi = true)
  | n, [], _, _, _ => ⟨fun i o h => by simp at h, fun k i ok oi fk fi hk h1 => by simp at h1⟩
  | n, o :: os, [], _, hl => by simp at hl
  | n, o :: os, f :: fs, h, hl => by
    unfold pairsOk at h
    rw [Bool.and_eq_true, Bool.and_eq_true] at h
    obtain ⟨⟨h1, h2⟩, h3⟩ := h
    obtain ⟨b1, b2⟩ := pairsOk_get h3 (by simpa using hl)
    refine ⟨fun i o' hi e he hb => ?_, fun k i ok oi fk fi hk hok hoi hfk hfi => ?_⟩
    · cases i with
      | zero =>
        simp at hi; subst hi
        have := List.all_eq_true.mp h1 e he
        rw [hb] at this
        simpa using this
      | succ i =>
        have := b1 i o' (by simpa using hi) e he hb
        omega
    · cases i with
      | zero => omega
      | succ i =>
        cases k with
        | zero =>
          simp at hok hfk
          subst hok; subst hfk
          exact pairOk_get h2 i oi fi (by simpa using hoi) (by simpa using hfi)
        | succ k =>
          have := b2 k i ok oi fk fi (by omega) (by simpa using hok) (by simpa using hoi) (by simpa using hfk) (by simpa using hfi)
          rwa [show n + 1 + k = n + (k + 1) by omega] at this

theorem feet_runs {pr : Pr} {N : Nat} {gops : Array Oper} {orc : Nat → PV} {F : Nat → Foot} : ∀ {l : List (Oper × PV)} {t : Nat → AV} {h : Nat → Option Ob} {u : Nat → Bool} {acc : Prop} {σ' : St} {C : Prop} {fs : List Foot} {n : Nat},
    runF pr N gops l t h u acc = some (σ', C) → C → feet pr N gops l t h u = some fs → (∀ (k : Nat) (p : Oper × PV), l[k]? = some p → gops[n + k]? = some p.1 ∧ orc (n + k) = p.2) → (∀ (k : Nat) (f : Foot), fs[k]? = some f → F (n + k) = f) →
    fs.length = l.length ∧ RunL pr N gops orc F σ' (List.range' n l.length) t h u
  | [], t, h, u, acc, σ', C, fs, n, hr, hC, hf, _, _ => by
    cases hr
    cases hf
    exact ⟨rfl, rfl⟩
  | (o, r) :: l, t, h, u, acc, σ', C, fs, n, hr, hC, hf, hg, hF => by
    unfold feet at hf
    split at hf
    · rename_i x hw C' ho
      rw [force_eq] at hf
      split at hf
      · rename_i fs' hfs
        cases hf
        have hstp : stp pr N gops o r t h u = some ⟨putT o.dst x t, applyH hw h, applyU hw u, C'⟩ := by rw [stp_eq, ho]
        unfold runF at hr
        rw [hstp] at hr
        have hg' : ∀ (k : Nat) (p : Oper × PV), l[k]? = some p → gops[n + 1 + k]? = some p.1 ∧ orc (n + 1 + k) = p.2 := fun k p hk => by
          have := hg (k + 1) p (by simpa using hk)
          rwa [show n + (k + 1) = n + 1 + k by omega] at this
        have hF' : ∀ (k : Nat) (f : Foot), fs'[k]? = some f → F (n + 1 + k) = f := fun k f hk => by
          have := hF (k + 1) f (by simpa using hk)
          rwa [show n + (k + 1) = n + 1 + k by omega] at this
        have h0 := hg 0 (o, r) rfl
        have hF0 := hF 0 _ rfl
        simp only [Nat.add_zero] at h0 hF0
        cases C' with
        | none =>
          simp only at hr
          obtain ⟨q1, q2⟩ := feet_runs hr hC hfs hg' hF'
          refine ⟨by simp [q1], ?_⟩
          rw [List.length_cons, List.range'_succ]
          exact ⟨o, x, hw, none, h0.1, by rw [h0.2]; exact ho, trivial, hF0.symm, q2⟩
        | some C' =>
          simp only at hr
          obtain ⟨q1, q2⟩ := feet_runs hr hC hfs hg' hF'
          refine ⟨by simp [q1], ?_⟩
          rw [List.length_cons, List.range'_succ]
          exact ⟨o, x, hw, some C', h0.1, by rw [h0.2]; exact ho, (runF_acc hr hC).1, hF0.symm, q2⟩
      · cases hf
    · cases hf

/-- A REGION WHOSE ORDER IS DRAWN. -/
theorem ev_draw {id : Nat} {ops : Array Oper} {Q : Exit → St → Prop} (rs : List PV) {σ' : St} {C : Prop} (hm : c.P.follows .mixedOrders = true)
    (h : runF c.toPr c.N ops (zipO ops.toList rs) σ.t σ.h σ.u True = some (σ', C)) (hD : drawOk c.toPr c.N ops rs σ.t σ.h σ.u = true) (hC : C) (hQ : Q .normal σ') : Ev c (.region id ops true) Q σ := fun L a w I => by
  have hz := zipO_fst ops.toList rs
  generalize hl : zipO ops.toList rs = l at h hz
  unfold drawOk at hD
  rw [hl] at hD
  split at hD
  · rename_i fs hfs
    have hlen : l.length = ops.size := by rw [← Array.length_toList, ← hz, List.length_map]
    obtain ⟨q1, q2⟩ := feet_runs (orc := fun k => (l[k]?.map (·.2)).getD .any) (F := fun k => (fs[k]?).getD ⟨[], [], []⟩) (n := 0) h hC hfs (fun k p hk => by
      rw [Nat.zero_add]
      refine ⟨?_, by simp [hk]⟩
      rw [← Array.getElem?_toList, ← hz, List.getElem?_map, hk]; rfl) (fun k f hk => by rw [Nat.zero_add]; simp [hk])
    obtain ⟨b1, b2⟩ := pairsOk_get hD (by rw [q1, hlen, Array.length_toList])
    refine wp_region_any hm (wpAny_of (orc := fun k => (l[k]?.map (·.2)).getD .any) (F := fun k => (fs[k]?).getD ⟨[], [], []⟩) hQ (fun k i ok oi hk hgk hgi => ?_) (fun i o hi e he hb => ?_) ops.size (List.range' 0 l.length) _ σ.t σ.h σ.u L a _ (by simp [hlen]) (List.pairwise_lt_range') (fun i => ?_) (by simp) q2 (I.drew).1)
    · rw [← Array.getElem?_toList] at hgk hgi
      have hi2 : i < fs.length := by rw [q1, hlen, ← Array.length_toList]; exact (List.getElem?_eq_some_iff.mp hgi).1
      have hk2 : k < fs.length := by omega
      have := b2 k i ok oi fs[k] fs[i] hk hgk hgi (List.getElem?_eq_getElem hk2) (List.getElem?_eq_getElem hi2)
      rw [Nat.zero_add] at this
      simpa [hi2, hk2] using this
    · have := b1 i o (by rw [Array.getElem?_toList]; exact hi) e he hb
      omega
    · rw [List.mem_range'_1, hlen, Nat.zero_add]
      constructor
      · rintro ⟨_, hi⟩
        exact ⟨hi, by rw [Array.getD_eq_getD_getElem?]; simp [hi]⟩
      · rintro ⟨hi, _⟩
        exact ⟨Nat.zero_le _, hi⟩
  · cases hD

end Vinc
