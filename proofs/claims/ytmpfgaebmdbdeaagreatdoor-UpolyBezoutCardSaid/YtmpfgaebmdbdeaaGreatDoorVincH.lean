/- coreH in the model: operations that make or write memory of the call's own. -/
import Derived.Test.YtmpfgaebmdbdeaaGreatDoorVincY
set_option linter.unusedSimpArgs false
set_option linter.unusedVariables false
namespace Vinc
open Go Go.RowKit

variable {c : Cx} {σ : St} {L : Locs} {a : Act} {w : World}

/-- What an operation answers: its value, or nothing. -/
def Ans (nx : Next) (v : Value) : Prop := nx = .value v ∨ (nx = .skip ∧ v = undef)

/-- An object's contents, said in other words. -/
theorem Inv.same (I : Inv c σ L a w) {i0 : Nat} {o o' : Ob} (h0 : σ.h i0 = some o) (hn : o'.n = o.n) (hf : ∀ j, j < o.n → o'.f j = o.f j) {u' : Nat → Bool} (hu : ∀ i, u' i = false → σ.u i = false) :
    Inv c ⟨σ.t, upd σ.h i0 (some o'), u'⟩ L a w := by
  have hsome : ∀ i, ((upd σ.h i0 (some o')) i).isSome ↔ (σ.h i).isSome := by
    intro i; simp only [upd]; split
    · rename_i h; subst h; rw [h0]; simp
    · exact Iff.rfl
  have hok : ∀ b, σ.ok c L w b → (⟨σ.t, upd σ.h i0 (some o'), u'⟩ : St).ok c L w b := fun b hb => ⟨hb.1, fun ⟨i, hi, hLi⟩ => hb.2 ⟨i, (hsome i).mp hi, hLi⟩⟩
  have hmono := RepA.mono (w := w) (fun _ _ => rfl) hok (fun _ _ h => h) (RowsKept.refl w L)
  refine I.step (Below.refl _ _) (fun _ _ => rfl) hok (fun _ _ h => h) (RowsKept.refl _ _) (fun i hi => I.fresh i (hu i hi)) (fun i oo ho => ?_) I.own (fun i j B hi hj => I.inj i j B ((hsome i).mp hi) ((hsome j).mp hj))
  by_cases hid : i = i0
  · subst hid
    rw [upd_same] at ho
    cases ho
    obtain ⟨B, hB, hat⟩ := I.live i o h0
    refine ⟨B, hB, ?_⟩
    cases B with
    | none => exact hn.trans hat
    | some b =>
      obtain ⟨cs, e, hh, hn', hc⟩ := hat
      refine ⟨cs, e, hh, by omega, fun j hj => ?_⟩
      rw [hf j (by omega)]
      exact ⟨(hc j (by omega)).1, hmono _ _ (hc j (by omega)).2⟩
  · rw [upd_ne _ _ hid] at ho
    obtain ⟨B, hB, hat⟩ := I.live i oo ho
    exact ⟨B, hB, hat.mono (fun _ _ => rfl) hmono⟩

theorem cellsA_rep {ok : Nat → Prop} {i : TI} {x : AV} {g : Nat → AV} {v : Value} (h : cellsA i x = some g) (hr : RepA w ok L x v) :
    v.cells.size = i.size ∧ ∀ j, j < i.size → isCell (v.cells.getD j undef) = true ∧ RepA w ok L (g j) (v.cells.getD j undef) := by
  unfold cellsA at h
  rcases bif_some2 h with ⟨_, h⟩ | ⟨_, h⟩
  · split at h
    · rename_i n f hag
      obtain ⟨hn, h⟩ := bif_some h
      have hn : n = i.size := Nat.eq_of_beq_eq_true hn
      cases h
      cases x <;> simp only [pvOf] at hag
      case p y =>
        obtain ⟨cs, rfl, hs, hc⟩ := asAgg_rep hag hr
        exact ⟨hs.trans hn, fun j hj => hc j (by omega)⟩
      all_goals cases hag
    · cases h
  · obtain ⟨hs, h⟩ := bif_some h
    cases h
    rw [Bool.and_eq_true] at hs
    have h1 : i.size = 1 := Nat.eq_of_beq_eq_true hs.1
    have hcell := cellish_cell hs.2 hr
    rw [cells_one hcell]
    refine ⟨by simp [h1], fun j hj => ?_⟩
    obtain rfl : j = 0 := by omega
    exact ⟨hcell, hr⟩

theorem overF_eq (f : Nat → AV) (off s : Nat) (g : Nat → AV) (j : Nat) : overF f off s g j = if off ≤ j ∧ j < off + s then g (j - off) else f j := by
  unfold overF
  split
  · simp only [upd]
    by_cases h : j = off
    · subst h; rw [if_pos rfl, if_pos (by omega), Nat.sub_self]
    · rw [if_neg h, if_neg (by omega)]
  · show (if off ≤ j then (if j < off + s then g (j - off) else f j) else f j) = _
    by_cases h1 : off ≤ j
    · by_cases h2 : j < off + s
      · rw [if_pos h1, if_pos h2, if_pos ⟨h1, h2⟩]
      · rw [if_pos h1, if_neg h2, if_neg (fun e => h2 e.2)]
    · rw [if_neg h1, if_neg (fun e => h1 e.1)]

/-- A part of a row of cells is written over. -/
theorem splice_getD (cs : Array Value) (o : Nat) (vs : List Value) (h : o + vs.length ≤ cs.size) (j : Nat) :
    ((cs.toList.take o ++ vs ++ cs.toList.drop (o + vs.length)).toArray).getD j undef = if o ≤ j ∧ j < o + vs.length then vs.getD (j - o) undef else cs.getD j undef := by
  rw [Array.getD_eq_getD_getElem?, List.getElem?_toArray]
  by_cases h1 : j < o
  · rw [if_neg (by omega), List.append_assoc, List.getElem?_append_left (by simp; omega), List.getElem?_take_of_lt h1, Array.getElem?_toList, Array.getD_eq_getD_getElem?]
  · by_cases h2 : j < o + vs.length
    · rw [if_pos (by omega), List.append_assoc, List.getElem?_append_right (by simp; omega)]
      have e : (cs.toList.take o).length = o := by simp; omega
      rw [e, List.getElem?_append_left (by omega), List.getD_eq_getElem?_getD]
    · have e : (cs.toList.take o).length = o := by simp; omega
      rw [if_neg (by omega), List.getElem?_append_right (by rw [List.length_append, e]; omega), List.length_append, e, List.getElem?_drop, Array.getElem?_toList, Array.getD_eq_getD_getElem?]
      congr 2; omega

theorem splice_size (cs : Array Value) (o : Nat) (vs : List Value) (h : o + vs.length ≤ cs.size) : ((cs.toList.take o ++ vs ++ cs.toList.drop (o + vs.length)).toArray).size = cs.size := by
  simp; omega

theorem getD_toList (cs : Array Value) (j : Nat) : cs.toList.getD j undef = cs.getD j undef := by
  rw [List.getD_eq_getElem?_getD, Array.getElem?_toList, Array.getD_eq_getD_getElem?]

/-- A cell of an own object, where it lies. -/
theorem Inv.objCells (I : Inv c σ L a w) {i0 : Nat} {o : Ob} (h0 : σ.h i0 = some o) : (L i0 = some none ∧ o.n = 0) ∨
    ∃ B cs e, L i0 = some (some B) ∧ w.heap[B]? = some (.cells cs e (0, 0)) ∧ o.n ≤ cs.size ∧ ∀ j, j < o.n → isCell (cs.getD j undef) = true ∧ RepA w (σ.ok c L w) L (o.f j) (cs.getD j undef) := by
  obtain ⟨B, hB, hat⟩ := I.live i0 o h0
  cases B with
  | none => exact .inl ⟨hB, hat⟩
  | some b => obtain ⟨cs, e, h1, h2, h3⟩ := hat; exact .inr ⟨b, cs, e, hB, h1, h2, h3⟩

theorem store_sound (I : Inv c σ L a w) (V : Operand → AV) (o : Oper) (hV : VOk w (σ.ok c L w) L V a.eval o.op) {t : Nat} {x v : Operand} (ho : o.op = .store t x v) {d : Nat} {fr : Bool}
    {out : Out} (h : coreH c.T V σ.h fr d o.op = some out) (hC : CP out.C) :
    ∃ nx r w' L', (execOp a.eval o).run c.P w = .ok nx w' ∧ Ans nx r ∧ Inv c ⟨σ.t, applyH out.hw σ.h, applyU out.hw σ.u⟩ L' a w' ∧
      RepA w' ((⟨σ.t, applyH out.hw σ.h, applyU out.hw σ.u⟩ : St).ok c L' w') L' out.x r := by
  rw [ho] at h hV
  simp only [coreH] at h
  have hx := hV x (by simp [Op.operands])
  have hv := hV v (by simp [Op.operands])
  split at h
  · rename_i i hT
    split at h
    · rename_i i0 off hvx
      rw [hvx] at hx
      obtain ⟨B, hB, hax⟩ := hx
      split at h
      · rename_i ob h0
        split at h
        · rename_i g hg
          cases h
          have hC : off + i.size ≤ ob.n := hC
          obtain ⟨hsz, hcells⟩ := cellsA_rep hg hv
          rcases I.objCells h0 with ⟨hn, _⟩ | ⟨B', cs, e, hB', hh, hn, hc⟩
          · rw [hB] at hn; cases hn
          · rw [hB] at hB'
            cases hB'
            have hl : (a.eval v).cells.toList.length = i.size := by rw [Array.length_toList, hsz]
            have hst := run_storeCells_at c.P B off e (a.eval v).cells.toList 0 cs w hh (by rw [hl]; omega) (fun u hu => by
              obtain ⟨j, hj, he⟩ := List.mem_iff_getElem.mp hu
              have := (hcells j (by omega)).1
              rw [← getD_toList, List.getD_eq_getElem?_getD, List.getElem?_eq_getElem hj] at this
              rw [← he]; exact this)
            rw [Nat.add_zero] at hst
            have hspl := splice_size cs off (a.eval v).cells.toList (by rw [hl]; omega)
            obtain ⟨I', hmono⟩ := I.write (o' := ⟨ob.n, overF ob.f off i.size g⟩) h0 hB hh hspl (by rw [hspl]; exact hn) (fun j hj => by
              show isCell _ = true ∧ RepA w _ L (overF ob.f off i.size g j) _
              rw [splice_getD cs off _ (by rw [hl]; omega), overF_eq, hl]
              by_cases hjr : off ≤ j ∧ j < off + i.size
              · rw [if_pos hjr, if_pos hjr, getD_toList]
                exact hcells (j - off) (by omega)
              · rw [if_neg hjr, if_neg hjr]
                exact hc j hj) (u' := upd σ.u i0 true) (fun k hk => by
                  simp only [upd] at hk; split at hk
                  · cases hk
                  · exact hk)
            refine ⟨.skip, undef, _, L, ?_, .inr ⟨rfl, rfl⟩, I', rfl⟩
            simp only [execOp, ho, hax, Instr.storeAt, Instr.sureAddr, storeVar, Sem.run_bind, run_sizeOf' hT, Result.andThen_ok, hsz, ne_eq, not_true_eq_false, if_false, hst, Sem.run_pure]
        · cases h
      · cases h
    · cases h
  · cases h

theorem newVar_sound (I : Inv c σ L a w) {d : Nat} (hd : σ.u d = false) (cs : Array Value) (e : TypeId) (o : Ob) (hn : o.n ≤ cs.size)
    (hc : ∀ j, j < o.n → isCell (cs.getD j undef) = true ∧ RepA w (σ.ok c L w) L (o.f j) (cs.getD j undef)) :
    ∃ L', Inv c ⟨σ.t, upd σ.h d (some o), upd σ.u d true⟩ L' a (w.alloc (.cells cs e)) ∧ L' d = some (some w.heap.size) := by
  obtain ⟨I', _⟩ := I.alloc hd (u' := upd σ.u d true) (fun i hi => by
    simp only [upd] at hi; split at hi
    · cases hi
    · rename_i h; exact ⟨hi, h⟩) cs e o hn hc
  exact ⟨_, I', upd_same _ _ _⟩

theorem zeroF_eq (i : TI) (j : Nat) : zeroF i j = .val (i.zero.getD (j % i.size) undef) := by
  unfold zeroF
  generalize i.size = s
  match s with
  | 0 => rfl
  | 1 => show PV.val (i.zero.getD 0 undef) = PV.val (i.zero.getD (j % 1) undef); rw [Nat.mod_one]
  | s + 2 => rfl

theorem madeCells_getD {i : TI} {z : Value} (hz : z.cells.toList = i.zero) (hs : z.cells.size = i.size) (n j : Nat) (hj : j < n) (h1 : 1 ≤ i.size) : (madeCells z.cells n).getD j undef = i.zero.getD (j % i.size) undef := by
  have hm : j % i.size < z.cells.size := by rw [hs]; exact Nat.mod_lt _ (by omega)
  rw [Array.getD_eq_getD_getElem?]
  simp only [madeCells, Array.getElem?_map, Array.getElem?_range, hj, if_true, Option.map_some, Option.getD_some]
  rw [hs, ← hz, List.getD_eq_getElem?_getD, Array.getElem?_toList]
  rw [getElem!_pos z.cells _ hm, Array.getElem?_eq_getElem hm]
  rfl

theorem zeroOk_cell {i : TI} (hz : zeroOk i = true) (j : Nat) (hj : j < i.size) : isCell (i.zero.getD j undef) = true := by
  unfold zeroOk at hz
  rw [Bool.and_eq_true] at hz
  have hs : i.zero.length = i.size := Nat.eq_of_beq_eq_true hz.2
  have hj' : j < i.zero.length := by omega
  rw [List.getD_eq_getElem?_getD, List.getElem?_eq_getElem hj']
  exact List.all_eq_true.mp hz.1 _ (List.getElem_mem hj')

theorem fillS_fill {ok : Nat → Prop} {V : Operand → AV} {ρ : Operand → Value} {i : TI} {n : Nat} :
    ∀ (ps : List (Nat × Operand)) (f g : Nat → AV) (cs : Array Value), (∀ p ∈ ps, RepA w ok L (V p.2) (ρ p.2)) → fillS V i n ps f = some g →
    (cs.size = n * i.size ∧ ∀ j, j < n * i.size → isCell (cs.getD j undef) = true ∧ RepA w ok L (f j) (cs.getD j undef)) →
    ∃ cs', Instr.fill (fun k => some (k * i.size, i.size)) cs (ps.map fun p => (p.1, ρ p.2)) = some cs' ∧ cs'.size = n * i.size ∧ ∀ j, j < n * i.size → isCell (cs'.getD j undef) = true ∧ RepA w ok L (g j) (cs'.getD j undef)
  | [], f, g, cs, _, h, hc => by cases h; exact ⟨cs, rfl, hc⟩
  | (k, y) :: ps, f, g, cs, hV, h, hc => by
    unfold fillS at h
    obtain ⟨hk, h⟩ := bif_some h
    have hk : k < n := Nat.blt_eq.mp hk
    split at h
    · rename_i gg hgg
      obtain ⟨hsz, hcells⟩ := cellsA_rep hgg (hV (k, y) (by simp))
      have hle : k * i.size + i.size ≤ n * i.size := by
        have : (k + 1) * i.size ≤ n * i.size := Nat.mul_le_mul_right _ hk
        rwa [Nat.add_mul, Nat.one_mul] at this
      have hfl := fun q => foldl_fill (k * i.size) (ρ y).cells.toList 0 cs q (by rw [Array.length_toList, hsz, hc.1]; omega)
      obtain ⟨cs', h1, h2⟩ := fillS_fill ps _ g ((((ρ y).cells.toList.zipIdx 0).foldl (fun (cs : Array Value) (x : Value × Nat) => cs.setIfInBounds (k * i.size + x.2) x.1) cs)) (fun p hp => hV p (by simp [hp])) h (by
        refine ⟨(hfl 0).1.trans hc.1, fun q hq => ?_⟩
        rw [(hfl q).2, mulS_eq, overF_eq]
        simp only [Nat.add_zero, Array.length_toList, hsz]
        by_cases hq2 : k * i.size ≤ q ∧ q < k * i.size + i.size
        · rw [if_pos hq2, if_pos hq2, getD_toList]; exact hcells _ (by omega)
        · rw [if_neg hq2, if_neg hq2]; exact hc.2 q hq)
      refine ⟨cs', ?_, h2⟩
      have hvs : (ρ y).cells.size = i.size := hsz
      simp only [List.map_cons, Instr.fill]
      have e2 : ¬ (((ρ y).cells.size ≠ i.size) || decide (k * i.size + (ρ y).cells.size > cs.size)) = true := by simp [hvs, hc.1]; omega
      rw [if_neg e2, ← h1]
      congr 1
      rw [← Array.foldl_toList, Array.toList_zipIdx]
    · cases h

end Vinc
