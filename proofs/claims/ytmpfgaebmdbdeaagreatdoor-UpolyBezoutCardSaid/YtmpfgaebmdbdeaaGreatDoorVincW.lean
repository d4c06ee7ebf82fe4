/- coreV in the model: all operations that leave memory as it is. -/
import Derived.Test.YtmpfgaebmdbdeaaGreatDoorVincV
set_option linter.unusedSimpArgs false
set_option linter.unusedVariables false
namespace Vinc
open Go Go.RowKit

variable {w : World}

theorem add_lit (b q j : Nat) : (⟨b, q, none⟩ : Addr).add j = ⟨b, q + j, none⟩ := by unfold Addr.add; split <;> simp_all

/-- A row of cells is read as one value. -/
theorem loadVar_agg {c : Pr} {t : Nat} {i : TI} (hT : c.T t = some i) (ha : isAggT i = true) (b q : Nat) (R : Nat → Value → Prop)
    (h : ∀ j, j < i.size → ∃ u, w.cell? ⟨b, q + j, none⟩ = some u ∧ isCell u = true ∧ R j u) :
    ∃ cs : Array Value, (loadVar t ⟨b, q, none⟩).run c.P w = .ok (.agg cs) w ∧ cs.size = i.size ∧ ∀ j, j < i.size → isCell (cs.getD j undef) = true ∧ R j (cs.getD j undef) := by
  have hl := run_loadCells (P := c.P) w ⟨b, q, none⟩ i.size (fun j => (w.cell? ⟨b, q + j, none⟩).getD undef) (fun j hj => by
    obtain ⟨u, hu, _⟩ := h j hj
    rw [add_lit, hu]; rfl)
  refine ⟨((List.range i.size).map (fun j => (w.cell? ⟨b, q + j, none⟩).getD undef)).toArray, ?_, ?_, fun j hj => ?_⟩
  · simp only [loadVar, Sem.run_bind, run_isAgg hT, Result.andThen_ok, ha, if_true, run_sizeOf' hT, hl]
    rfl
  · simp
  · obtain ⟨u, hu, hc, hr⟩ := h j hj
    have : ((List.range i.size).map (fun j => (w.cell? ⟨b, q + j, none⟩).getD undef)).toArray.getD j undef = u := by
      rw [Array.getD_eq_getD_getElem?]; simp [hj, hu]
    rw [this]
    exact ⟨hc, hr⟩

theorem loadVar_one {c : Pr} {t : Nat} {i : TI} (hT : c.T t = some i) (ha : isAggT i = false) (b q : Nat) {u : Value} (h : w.cell? ⟨b, q, none⟩ = some u) :
    (loadVar t ⟨b, q, none⟩).run c.P w = .ok u w := by
  simp only [loadVar, Sem.run_bind, run_isAgg hT, Result.andThen_ok, ha, Bool.false_eq_true, if_false, run_load, h]

theorem part_load {c : Pr} {t : Nat} {i : TI} (hT : c.T t = some i) {n off : Nat} {f : Nat → PV} {r : PV} {C : Prop} (h : part i n f off = (r, C)) (hC : C) (b o : Nat) {ok : Nat → Prop}
    (hc : ∀ j, j < n → ∃ u, w.cell? ⟨b, o + j, none⟩ = some u ∧ isCell u = true ∧ Rep w ok (f j) u) :
    ∃ v, (loadVar t ⟨b, o + off, none⟩).run c.P w = .ok v w ∧ Rep w ok r v := by
  unfold part at h
  cases ha : isAggT i
  · rw [ha] at h
    simp only [cond_false, Prod.mk.injEq] at h
    obtain ⟨rfl, rfl⟩ := h
    obtain ⟨u, hu, _, hr⟩ := hc off hC
    exact ⟨u, loadVar_one hT ha b _ hu, hr⟩
  · rw [ha] at h
    simp only [cond_true, Prod.mk.injEq] at h
    obtain ⟨rfl, rfl⟩ := h
    obtain ⟨cs, h1, h2, h3⟩ := loadVar_agg (w := w) hT ha b (o + off) (fun j u => Rep w ok (f (off + j)) u) (fun j hj => by
      have := hc (off + j) (by omega)
      rwa [← Nat.add_assoc] at this)
    exact ⟨_, h1, cs, rfl, h2, h3⟩

theorem partO_load {c : Pr} {t : Nat} {i : TI} (hT : c.T t = some i) {off : Nat} {o : Ob} {r : AV} {C : Prop} (h : partO i o off = (r, C)) (hC : C) (b : Nat) {ok : Nat → Prop} {L : Locs}
    (hc : ∀ j, j < o.n → ∃ u, w.cell? ⟨b, j, none⟩ = some u ∧ isCell u = true ∧ RepA w ok L (o.f j) u) :
    ∃ v, (loadVar t ⟨b, off, none⟩).run c.P w = .ok v w ∧ RepA w ok L r v := by
  unfold partO at h
  cases ha : isAggT i
  · rw [ha] at h
    simp only [cond_false, Prod.mk.injEq] at h
    obtain ⟨rfl, rfl⟩ := h
    obtain ⟨u, hu, _, hr⟩ := hc off hC
    exact ⟨u, loadVar_one hT ha b _ hu, hr⟩
  · rw [ha] at h
    simp only [cond_true, Prod.mk.injEq] at h
    obtain ⟨rfl, rfl⟩ := h
    obtain ⟨cs, h1, h2, h3⟩ := loadVar_agg (w := w) hT ha b off (fun j u => Rep w ok (pvOf (o.f (off + j))) u) (fun j hj => by
      obtain ⟨u, hu, hcu, hr⟩ := hc (off + j) (by omega)
      refine ⟨u, hu, hcu, ?_⟩
      cases hx : o.f (off + j) <;> rw [hx] at hr <;> simp only [pvOf, RepA, Rep] at hr ⊢
      exact hr)
    exact ⟨_, h1, cs, rfl, h2, h3⟩

/-- A part of a struct or of an array that is a value. -/
theorem part_part {c : Pr} {t : Nat} {i : TI} (hT : c.T t = some i) {n off : Nat} {f : Nat → PV} {r : PV} {C : Prop} (h : part i n f off = (r, C)) (hC : C) {ok : Nat → Prop} (cs : Array Value) (hn : cs.size = n)
    (hc : ∀ j, j < n → isCell (cs.getD j undef) = true ∧ Rep w ok (f j) (cs.getD j undef)) :
    ∃ v, (Go.part t cs off).run c.P w = .ok v w ∧ Rep w ok r v := by
  unfold part at h
  cases ha : isAggT i
  · rw [ha] at h
    simp only [cond_false, Prod.mk.injEq] at h
    obtain ⟨rfl, rfl⟩ := h
    refine ⟨cs.getD off undef, ?_, (hc off hC).2⟩
    have : cs[off]? = some (cs.getD off undef) := by
      rw [Array.getD_eq_getD_getElem?]; have : off < cs.size := by omega
      simp [this]
    simp only [Go.part, Sem.run_bind, run_isAgg hT, ha, Result.andThen_ok, Bool.false_eq_true, if_false, this, Sem.run_pure]
  · rw [ha] at h
    simp only [cond_true, Prod.mk.injEq] at h
    obtain ⟨rfl, rfl⟩ := h
    refine ⟨.agg (cs.extract off (off + i.size)), ?_, _, rfl, by simp; omega, fun j hj => ?_⟩
    · simp [Go.part, run_isAgg hT, ha, run_sizeOf' hT]
    · have : (cs.extract off (off + i.size)).getD j undef = cs.getD (off + j) undef := by
        rw [Array.getD_eq_getD_getElem?, Array.getD_eq_getD_getElem?]
        have h1 : j < min (off + i.size) cs.size - off := by omega
        have h2 : off + j < cs.size := by omega
        simp [h1, h2]
      rw [this]
      exact hc (off + j) (by omega)

theorem asAgg_rep {ok : Nat → Prop} {x : PV} {n : Nat} {f : Nat → PV} {v : Value} (h : asAgg x = some (n, f)) (hr : Rep w ok x v) :
    ∃ cs : Array Value, v = .agg cs ∧ cs.size = n ∧ ∀ j, j < n → isCell (cs.getD j undef) = true ∧ Rep w ok (f j) (cs.getD j undef) := by
  unfold asAgg at h
  split at h
  · cases h; exact hr
  · rename_i cs
    obtain ⟨hall, h⟩ := bif_some h
    cases h
    obtain rfl : v = _ := hr
    refine ⟨cs, rfl, rfl, fun j hj => ⟨?_, rfl⟩⟩
    have := Array.all_eq_true.mp hall j hj
    rw [Array.getD_eq_getD_getElem?]
    simpa [hj] using this
  · cases h

theorem fieldT_of {c : Pr} {S k o : Nat} {i : TI} (h : fieldT c.T S k = some (o, i)) :
    ∃ gs fd, c.P.underlying S = some (.struct gs) ∧ gs[k]? = some fd ∧ fd.offset = o ∧ c.T fd.type = some i ∧ i.size ≠ 0 := by
  unfold fieldT at h
  split at h
  · rename_i fs hfs
    obtain ⟨gs, hg, hm⟩ := structT_of hfs
    split at h
    · rename_i o' ft hk
      split at h
      · rename_i i' hi
        split at h
        · cases h
        · rename_i hsz
          cases h
          rw [← hm, List.getElem?_map] at hk
          cases hgk : gs.toList[k]? with
          | none => rw [hgk] at hk; simp at hk
          | some fd =>
            rw [hgk] at hk
            simp only [Option.map_some, Option.some.injEq, Prod.mk.injEq] at hk
            rw [Array.getElem?_toList] at hgk
            obtain ⟨rfl, rfl⟩ := hk
            exact ⟨gs, fd, hg, hgk, rfl, hi, hsz⟩
      · cases h
    · cases h
  · cases h

theorem run_fieldPlace {c : Pr} {fd : Field} {i : TI} (hi : c.T fd.type = some i) (hz : i.size ≠ 0) (b q : Nat) :
    (fieldPlace ⟨b, q, none⟩ fd).run c.P w = .ok ⟨b, q + fd.offset, none⟩ w := by
  simp [fieldPlace, run_sizeOf' hi, hz, add_lit]

/-- The value of an operand, if it is a Bool under a condition. -/
theorem boolOf_rep {ok : Nat → Prop} {L : Locs} {x : AV} {b : Bool} {v : Value} (h : boolOf x = some b) (hg : gOf x = true) (hr : RepA w ok L x v) : v = .bool b := by
  unfold boolOf at h
  split at h
  · cases h; exact hr
  · cases h; exact hr.1 hg
  · cases h

theorem run_sliceBound {P : Program} {k : IntKind} {i : Int} {y : Nat} {code : BoundsCode} (h : 0 ≤ i ∧ i ≤ (y : Int)) : (Instr.sliceBound (.int k i) y code).run P w = .ok i.toNat w := by
  simp only [Instr.sliceBound, asIntOf, pure_bind, h, and_self, if_true, Sem.run_pure]

theorem cutOf_run {n : Nat} {lo hi mx : Option AV} {l m : Nat} {C : Prop} (h : cutOf n lo hi mx = some ⟨l, m, C⟩) (hC : C) (P : Program) {ok : Nat → Prop} {L : Locs} {Lo Hi Mx : Option Value}
    (hlo : ∀ x, lo = some x → ∃ v, Lo = some v ∧ RepA w ok L x v) (hlo' : lo = none → Lo = none)
    (hhi : ∀ x, hi = some x → ∃ v, Hi = some v ∧ RepA w ok L x v) (hhi' : hi = none → Hi = none)
    (hmx : ∀ x, mx = some x → ∃ v, Mx = some v ∧ RepA w ok L x v) (hmx' : mx = none → Mx = none) (cap : Nat) (hcap : n ≤ cap) :
    ∃ h' M, (Instr.sliceBounds true n cap Lo Hi Mx).run P w = .ok (l, h', M) w ∧ l + m = h' ∧ h' ≤ n ∧ h' ≤ M ∧ M ≤ cap := by
  unfold cutOf at h
  split at h
  · rename_i k z
    obtain ⟨vm, rfl, hm⟩ := hmx _ rfl
    obtain rfl : vm = _ := hm
    split at h
    · rename_i k2 z2
      obtain ⟨vh, rfl, hh⟩ := hhi _ rfl
      obtain rfl : vh = _ := hh
      split at h
      · cases h
        obtain rfl := hlo' rfl
        obtain ⟨⟨a1, a2⟩, a3, a4⟩ := hC
        refine ⟨z2.toNat, z.toNat, ?_, by omega, by omega, by omega, by omega⟩
        have b1 : 0 ≤ z ∧ z ≤ (cap : Int) := ⟨a1, by omega⟩
        have b2 : 0 ≤ z2 ∧ z2 ≤ (z.toNat : Int) := ⟨a3, by omega⟩
        simp only [Instr.sliceBounds, Sem.run_bind, Sem.run_pure, Result.andThen_ok, if_true, Option.isSome_none, Option.isSome_some, run_sliceBound b1, run_sliceBound b2]
      · rename_i k3 z3
        cases h
        obtain ⟨vl, rfl, hl⟩ := hlo _ rfl
        obtain rfl : vl = _ := hl
        obtain ⟨⟨a1, a2⟩, ⟨a3, a4⟩, a5, a6⟩ := hC
        refine ⟨z2.toNat, z.toNat, ?_, by omega, by omega, by omega, by omega⟩
        have b1 : 0 ≤ z ∧ z ≤ (cap : Int) := ⟨a1, by omega⟩
        have b2 : 0 ≤ z2 ∧ z2 ≤ (z.toNat : Int) := ⟨a3, by omega⟩
        have b3 : 0 ≤ z3 ∧ z3 ≤ (z2.toNat : Int) := ⟨a5, by omega⟩
        simp only [Instr.sliceBounds, Sem.run_bind, Sem.run_pure, Result.andThen_ok, if_true, Option.isSome_none, Option.isSome_some, run_sliceBound b1, run_sliceBound b2, run_sliceBound b3]
      · cases h
    · cases h
  · obtain rfl := hmx' rfl
    split at h
    · obtain rfl := hhi' rfl
      split at h
      · cases h
        obtain rfl := hlo' rfl
        exact ⟨n, cap, by simp [Instr.sliceBounds], by omega, by omega, by omega, by omega⟩
      · rename_i k3 z3
        cases h
        obtain ⟨vl, rfl, hl⟩ := hlo _ rfl
        obtain rfl : vl = _ := hl
        obtain ⟨a5, a6⟩ := hC
        refine ⟨n, cap, ?_, by omega, by omega, by omega, by omega⟩
        have b3 : 0 ≤ z3 ∧ z3 ≤ (n : Int) := ⟨a5, by omega⟩
        simp only [Instr.sliceBounds, Sem.run_bind, Sem.run_pure, Result.andThen_ok, if_true, Option.isSome_none, Option.isSome_some, run_sliceBound b3]
      · cases h
    · rename_i k2 z2
      obtain ⟨vh, rfl, hh⟩ := hhi _ rfl
      obtain rfl : vh = _ := hh
      split at h
      · cases h
        obtain rfl := hlo' rfl
        obtain ⟨a3, a4⟩ := hC
        refine ⟨z2.toNat, cap, ?_, by omega, by omega, by omega, by omega⟩
        have b2 : 0 ≤ z2 ∧ z2 ≤ (cap : Int) := ⟨a3, by omega⟩
        simp only [Instr.sliceBounds, Sem.run_bind, Sem.run_pure, Result.andThen_ok, if_true, Option.isSome_none, Option.isSome_some, run_sliceBound b2]
      · rename_i k3 z3
        cases h
        obtain ⟨vl, rfl, hl⟩ := hlo _ rfl
        obtain rfl : vl = _ := hl
        obtain ⟨⟨a3, a4⟩, a5, a6⟩ := hC
        refine ⟨z2.toNat, cap, ?_, by omega, by omega, by omega, by omega⟩
        have b2 : 0 ≤ z2 ∧ z2 ≤ (cap : Int) := ⟨a3, by omega⟩
        have b3 : 0 ≤ z3 ∧ z3 ≤ (z2.toNat : Int) := ⟨a5, by omega⟩
        simp only [Instr.sliceBounds, Sem.run_bind, Sem.run_pure, Result.andThen_ok, if_true, Option.isSome_none, Option.isSome_some, run_sliceBound b2, run_sliceBound b3]
      · cases h
    · cases h
  · cases h

theorem shiftF_eq {α : Type} (f : Nat → α) (k j : Nat) : shiftF f k j = f (k + j) := by
  cases k <;> simp [shiftF]

end Vinc
