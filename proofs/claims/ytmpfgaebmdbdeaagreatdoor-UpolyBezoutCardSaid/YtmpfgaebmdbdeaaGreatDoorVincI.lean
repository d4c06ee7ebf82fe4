/- coreH in the model, continued: what makes memory; append, copy. -/
import Derived.Test.YtmpfgaebmdbdeaaGreatDoorVincH
set_option linter.unusedSimpArgs false
set_option linter.unusedVariables false
namespace Vinc
open Go Go.RowKit

variable {c : Cx} {σ : St} {L : Locs} {a : Act} {w : World}

/-- What an operation of the call's own memory does. -/
def HSound (c : Cx) (σ : St) (a : Act) (w : World) (o : Oper) (out : Out) : Prop :=
  ∃ nx r w' L', (execOp a.eval o).run c.P w = .ok nx w' ∧ Ans nx r ∧ Inv c ⟨σ.t, applyH out.hw σ.h, applyU out.hw σ.u⟩ L' a w' ∧
    RepA w' ((⟨σ.t, applyH out.hw σ.h, applyU out.hw σ.u⟩ : St).ok c L' w') L' out.x r

theorem alloc_sound (I : Inv c σ L a w) (V : Operand → AV) (o : Oper) {t : Nat} (ho : o.op = .alloc t) {d : Nat} {fr : Bool} (hd : fr = true → σ.u d = false)
    {out : Out} (h : coreH c.T V σ.h fr d o.op = some out) : HSound c σ a w o out := by
  rw [ho] at h
  simp only [coreH] at h
  split at h
  · rename_i i hT
    obtain ⟨hf, h⟩ := bif_some h
    cases h
    rw [Bool.and_eq_true] at hf
    obtain ⟨z, hzr, _, hzs, hzc⟩ := zero_of (w := w) hT hf.2
    obtain ⟨L', I', hL'⟩ := newVar_sound I (hd hf.1) z.cells t ⟨i.size, fun j => .p (.val (i.zero.getD j undef))⟩ (by simp [hzs]) (fun j hj => ⟨(hzc j hj).1, (hzc j hj).2⟩)
    refine ⟨.value (.pointer (some ⟨w.heap.size, 0, none⟩)), _, _, L', ?_, .inl rfl, I', ⟨_, hL', rfl⟩⟩
    simp [execOp, ho, Instr.alloc, hzr, newVar, newRow]
  · cases h

theorem box_sound (I : Inv c σ L a w) (V : Operand → AV) (o : Oper) (hV : VOk w (σ.ok c L w) L V a.eval o.op) {t : Nat} {x : Operand} (ho : o.op = .box t x) {d : Nat} {fr : Bool} (hd : fr = true → σ.u d = false)
    {out : Out} (h : coreH c.T V σ.h fr d o.op = some out) : HSound c σ a w o out := by
  rw [ho] at h hV
  simp only [coreH] at h
  have hx := hV x (by simp [Op.operands])
  split at h
  · rename_i i hT
    obtain ⟨hf, h⟩ := bif_some h
    split at h
    · rename_i g hg
      cases h
      obtain ⟨hsz, hcells⟩ := cellsA_rep hg hx
      obtain ⟨L', I', hL'⟩ := newVar_sound I (hd hf) (a.eval x).cells t ⟨i.size, g⟩ (by simp [hsz]) hcells
      refine ⟨.value (.pointer (some ⟨w.heap.size, 0, none⟩)), _, _, L', ?_, .inl rfl, I', ⟨_, hL', rfl⟩⟩
      simp [execOp, ho, Instr.box, newVar, newRow]
    · cases h
  · cases h

theorem buildSlice_sound (I : Inv c σ L a w) (V : Operand → AV) (o : Oper) (hV : VOk w (σ.ok c L w) L V a.eval o.op) {t n : Nat} {ps : Array (Nat × Operand)} (ho : o.op = .buildSlice t n ps) {d : Nat} {fr : Bool}
    (hd : fr = true → σ.u d = false) {out : Out} (h : coreH c.T V σ.h fr d o.op = some out) : HSound c σ a w o out := by
  rw [ho] at h hV
  simp only [coreH] at h
  split at h
  · rename_i e he
    have hu := sliceT_of he
    split at h
    · rename_i i hT
      obtain ⟨hf, h⟩ := bif_some h
      rw [Bool.and_eq_true, Bool.and_eq_true] at hf
      have hsmall : n * i.size ≤ 4096 := Nat.le_of_ble_eq_true hf.2
      split at h
      · rename_i f hfs
        cases h
        obtain ⟨z, hzr, hzl, hzs, hzc⟩ := zero_of (w := w) hT hf.1.2
        have hmap : (ps.map fun (i, x) => (i, a.eval x)).toList = ps.toList.map fun p => (p.1, a.eval p.2) := by rw [Array.toList_map]
        have hz0 : ∃ zc : Array Value, ((n * i.size = 0 ∧ zc = #[]) ∨ (n * i.size ≠ 0 ∧ zc = z.cells)) ∧
            ∀ j, j < n * i.size → ((Array.range (n * i.size)).map (zc[· % zc.size]!)).getD j undef = i.zero.getD (j % i.size) undef := by
          by_cases h0 : n * i.size = 0
          · exact ⟨#[], .inl ⟨h0, rfl⟩, fun j hj => by omega⟩
          · refine ⟨z.cells, .inr ⟨h0, rfl⟩, fun j hj => ?_⟩
            have h1 : 1 ≤ i.size := by rcases Nat.eq_zero_or_pos i.size with h | h; (rw [h] at h0; simp at h0); exact h
            exact madeCells_getD hzl hzs _ j hj h1
        obtain ⟨zc, hzc1, hzc2⟩ := hz0
        obtain ⟨cs, h1, h2, h3⟩ := fillS_fill (w := w) (ok := σ.ok c L w) (L := L) (ρ := a.eval) ps.toList _ f ((Array.range (n * i.size)).map (zc[· % zc.size]!)) (fun p hp => hV p.2 (by simp only [Op.operands, List.mem_map]; exact ⟨p, hp, rfl⟩)) hfs (by
          refine ⟨by simp, fun j hj => ?_⟩
          rw [hzc2 j hj]
          have h1 : 1 ≤ i.size := by rcases Nat.eq_zero_or_pos i.size with h | h; (rw [h] at hj; simp at hj); exact h
          refine ⟨zeroOk_cell hf.1.2 _ (Nat.mod_lt _ (by omega)), ?_⟩
          show Rep w _ (zeroF i j) _
          rw [zeroF_eq]
          exact rfl)
        obtain ⟨L', I', hL'⟩ := newVar_sound I (hd hf.1.1) cs e ⟨mulS n i.size, f⟩ (by show mulS n i.size ≤ _; rw [mulS_eq]; omega) (fun j hj => h3 j (by have : j < mulS n i.size := hj; rwa [mulS_eq] at this))
        refine ⟨.value (.slice (some ⟨w.heap.size, 0, none⟩) n n), _, _, L', ?_, .inl rfl, I', .inr (.inr ⟨_, n, hL', rfl, Nat.le_refl _, cs, e, heap_alloc_new w _, by omega⟩)⟩
        rw [← hmap] at h1
        have hle : ¬ (n * i.size > 2 ^ 24) := by omega
        rcases hzc1 with ⟨h0, rfl⟩ | ⟨h0, rfl⟩
        · simp only [execOp, ho, Instr.buildSlice, Sem.run_bind, run_underlying hu, Result.andThen_ok, run_sizeOf' hT, hle, if_false, if_pos h0, h1, Sem.run_pure, newRow, run_newObj]
          rfl
        · simp only [execOp, ho, Instr.buildSlice, Sem.run_bind, run_underlying hu, Result.andThen_ok, run_sizeOf' hT, hle, if_false, if_neg h0, hzr, h1, Sem.run_pure, newRow, run_newObj]
          rfl
      · cases h
    · cases h
  · cases h

theorem makeSlice_sound (I : Inv c σ L a w) (V : Operand → AV) (o : Oper) (hV : VOk w (σ.ok c L w) L V a.eval o.op) {t : Nat} {l k : Operand} (ho : o.op = .makeSlice t l k) {d : Nat} {fr : Bool}
    (hd : fr = true → σ.u d = false) {out : Out} (h : coreH c.T V σ.h fr d o.op = some out) (hC : CP out.C) : HSound c σ a w o out := by
  rw [ho] at h hV
  simp only [coreH] at h
  have hl := hV l (by simp [Op.operands])
  have hk := hV k (by simp [Op.operands])
  split at h
  · rename_i e he
    have hu := sliceT_of he
    split at h
    · rename_i i hT
      obtain ⟨hf, h⟩ := bif_some h
      rw [Bool.and_eq_true, Bool.and_eq_true] at hf
      split at h
      · rename_i k1 z1 k2 z2 hvl hvk
        cases h
        rw [hvl] at hl
        rw [hvk] at hk
        have hl : a.eval l = _ := hl
        have hk : a.eval k = _ := hk
        obtain ⟨h0, h1, h2⟩ : 0 ≤ z1 ∧ z1 ≤ z2 ∧ z2 ≤ 1099511627776 := hC
        obtain ⟨fi, z, hfi, hsz, hby, hz, hzl⟩ := info_of hT
        obtain ⟨_, _, _, hzs, _⟩ := zero_of (w := w) hT hf.1.2
        have hzs : z.cells.size = i.size := by
          obtain ⟨z', hzr', hzl', hzs', _⟩ := zero_of (w := w) hT hf.1.2
          rw [← Array.length_toList, hzl, ← hzl', Array.length_toList]; exact hzs'
        have hb : i.bytes ≤ 128 := Nat.le_of_ble_eq_true hf.2
        have hr := run_make (P := c.P) w t e fi z hu hfi hz k1 k2 z1 z2 h0 h1 (by
          rw [hby]
          have : (i.bytes : Int) * z2 ≤ 128 * z2 := Int.mul_le_mul_of_nonneg_right (by omega) (by omega)
          omega) (by omega)
        rw [hsz] at hr
        have hle : z1.toNat * i.size ≤ z2.toNat * i.size := Nat.mul_le_mul_right _ (by omega)
        obtain ⟨L', I', hL'⟩ := newVar_sound I (hd hf.1.1) (madeCells z.cells (z2.toNat * i.size)) e ⟨mulS z1.toNat i.size, fun j => .p (zeroF i j)⟩ (by show mulS _ _ ≤ _; rw [mulS_eq, size_madeCells]; exact hle) (fun j hj => by
          have hj : j < z1.toNat * i.size := by have : j < mulS z1.toNat i.size := hj; rwa [mulS_eq] at this
          have h1 : 1 ≤ i.size := by rcases Nat.eq_zero_or_pos i.size with h | h; (rw [h] at hj; simp at hj); exact h
          rw [madeCells_getD hzl hzs _ j (by omega) h1]
          refine ⟨zeroOk_cell hf.1.2 _ (Nat.mod_lt _ (by omega)), ?_⟩
          show Rep w _ (zeroF i j) _
          rw [zeroF_eq]
          exact rfl)
        refine ⟨.value (.slice (some ⟨w.heap.size, 0, none⟩) z1.toNat z2.toNat), _, _, L', ?_, .inl rfl, I', .inr (.inr ⟨_, z2.toNat, hL', rfl, by omega, _, e, heap_alloc_new w _, by rw [size_madeCells]; omega⟩)⟩
        simp only [execOp, ho, hl, hk, Sem.run_bind, hr, Result.andThen_ok, Sem.run_pure]
      · cases h
    · cases h
  · cases h

/-! ### append and copy -/

/-- What a source of append or copy gives: the cells that are read. -/
def SrcOk (c : Cx) (σ : St) (L : Locs) (w : World) (s m : Nat) (g : Nat → AV) (v : Value) : Prop :=
  ∃ news : List Value, news.length = m * s ∧ (∀ j, j < m * s → isCell (news.getD j undef) = true ∧ RepA w (σ.ok c L w) L (g j) (news.getD j undef)) ∧ (Builtin.lenOf v).run c.P w = .ok m w ∧
    (∃ A n cap, v = .slice A n cap) ∧ (∀ n', n' ≤ m → ∀ W : World, W.heap = w.heap → (Builtin.firstCells s n' v).run c.P W = .ok (news.take (n' * s)).toArray W)

theorem srcOk_of {s m : Nat} {g : Nat → AV} {v : Value} (A : Option Addr) (cap : Nat) (hv : v = .slice A m cap)
    (hcells : m * s = 0 ∨ ∃ b o, A = some ⟨b, o, none⟩ ∧ ∀ j, j < m * s → ∃ u, w.cell? ⟨b, o + j, none⟩ = some u ∧ isCell u = true ∧ RepA w (σ.ok c L w) L (g j) u) : SrcOk c σ L w s m g v := by
  subst hv
  rcases hcells with h0 | ⟨b, o, rfl, hc⟩
  · refine ⟨[], by simp [h0], fun j hj => by omega, rfl, ⟨_, _, _, rfl⟩, fun n' hn' W hW => ?_⟩
    have : n' * s = 0 := by have := Nat.mul_le_mul_right s hn'; omega
    cases A with
    | none => simp [Builtin.firstCells]
    | some ad => simp [Builtin.firstCells, this, loadCells, loadCellsFrom]
  · refine ⟨(List.range (m * s)).map (fun j => (w.cell? ⟨b, o + j, none⟩).getD undef), by simp, fun j hj => ?_, rfl, ⟨_, _, _, rfl⟩, fun n' hn' W hW => ?_⟩
    · obtain ⟨u, hu, h1, h2⟩ := hc j hj
      have : ((List.range (m * s)).map (fun j => (w.cell? ⟨b, o + j, none⟩).getD undef)).getD j undef = u := by
        rw [List.getD_eq_getElem?_getD]; simp [hj, hu]
      rw [this]; exact ⟨h1, h2⟩
    · have hle : n' * s ≤ m * s := Nat.mul_le_mul_right _ hn'
      have := run_loadCells (P := c.P) W ⟨b, o, none⟩ (n' * s) (fun j => (w.cell? ⟨b, o + j, none⟩).getD undef) (fun j hj => by
        obtain ⟨u, hu, _⟩ := hc j (by omega)
        rw [add_lit, World.cell?_of_block (w := w) (w' := W) (by rw [hW]), hu]; rfl)
      simp only [Builtin.firstCells, this]
      rw [← List.map_take, List.take_range, Nat.min_eq_left hle]

theorem srcA_rep (I : Inv c σ L a w) {s : Nat} (hs : 1 ≤ s) {y : AV} {v : Value} {m : Nat} {g : Nat → AV} {k : Option (Nat × Prop)} (h : srcA σ.h s y = some (m, g, k)) (hr : RepA w (σ.ok c L w) L y v)
    (hC : kC k) : SrcOk c σ L w s m g v := by
  unfold srcA at h
  split at h
  · rename_i n s' f
    have hb := bif_some h
    clear h
    obtain ⟨hss, h⟩ := hb
    obtain rfl : s = s' := Nat.eq_of_beq_eq_true hss
    simp only [Option.some.injEq, Prod.mk.injEq] at h
    obtain ⟨rfl, rfl, rfl⟩ := h
    obtain ⟨A, cap, hv, hcap, hcells⟩ := hr
    refine srcOk_of A cap hv (hcells.imp id ?_)
    rintro ⟨b, o, rfl, hb, hc⟩
    exact ⟨b, o, rfl, hc⟩
  · simp only [Option.some.injEq, Prod.mk.injEq] at h
    obtain ⟨rfl, rfl, rfl⟩ := h
    obtain rfl : v = _ := hr
    exact srcOk_of none 0 rfl (.inl (by simp))
  · rename_i i0 off n s'
    have hb := bif_some h
    clear h
    obtain ⟨hss, h⟩ := hb
    obtain rfl : s = s' := Nat.eq_of_beq_eq_true hss
    split at h
    · rename_i o h0
      simp only [Option.some.injEq, Prod.mk.injEq] at h
      obtain ⟨rfl, rfl, rfl⟩ := h
      have hC : off + mulS n s ≤ o.n := hC
      rw [mulS_eq] at hC
      rcases hr with ⟨hL, hn, hv⟩ | ⟨B, o', hL, hn, hv⟩ | ⟨B, cap, hL, hv, hcap, cs, e, hh, hsz⟩
      · subst hn
        obtain ⟨A, hv⟩ := hv
        exact srcOk_of A 0 hv (.inl (by simp))
      · subst hn
        exact srcOk_of _ 0 hv (.inl (by simp))
      · refine srcOk_of _ cap hv (.inr ⟨B, off, rfl, fun j hj => ?_⟩)
        rcases I.objCells h0 with ⟨hn, _⟩ | ⟨B', cs', e', hB', hh', hn', hc⟩
        · rw [hL] at hn; cases hn
        · rw [hL] at hB'
          cases hB'
          rw [hh] at hh'
          cases hh'
          have hlt : off + j < cs.size := by omega
          refine ⟨cs.getD (off + j) undef, ?_, ?_⟩
          · simp [World.cell?, hh, Array.getD_eq_getD_getElem?, hlt]
          · rw [shiftF_eq]; exact hc (off + j) (by omega)
    · cases h
  · cases h

end Vinc
