/- From a statement's input to the values of the walks: two rows of words in an array. -/
import Derived.Test.YtmpfgaebmdbdeaaGreatDoorVincS
set_option linter.unusedVariables false
namespace Vinc
open Go Go.RowKit Go.ChangeShapes Go.WideShapes

section
variable {H : Type} {enc : TypeId × Value → H} {P : Program} {w : World} {base : Nat} {spare : Nat → Bool} {held : Bool}

theorem open_rowT {t e : TypeId} {fuel : Nat} {cs : List Value} {x : DataW H × List MemPlace} (ht : P.underlying t = some (.slice e)) (he : P.underlying e = some (.int .u64)) (hc : P.cellsOf e = 1)
    (hf : DataW.trod enc P w base spare held fuel t cs = some x) :
    ∃ (v : Value) (xs : List Nat), cs = [v] ∧ isCell v = true ∧ Rep w (fun b => b < w.heap.size) (u64s xs) v ∧ ∀ x, x ∈ xs → x < 18446744073709551616 := by
  rcases open_ints ht he hc hf with ⟨hcs, _⟩ | ⟨x, l, c, zs, hcs, _, hl, hm, hz, _, hcell, hwz⟩
  · exact ⟨_, [], hcs, rfl, ⟨none, 0, rfl, Nat.le_refl _, .inl (by simp)⟩, by simp⟩
  · have hlen : l ≤ zs.length := by
      rw [hz]; split <;> omega
    refine ⟨_, (zs.take l).map Int.toNat, hcs, rfl, ?_, ?_⟩
    · have hxl : ((zs.take l).map Int.toNat).length = l := by simp; omega
      show Rep w _ (.sl ((zs.take l).map Int.toNat).length 1 _) _
      rw [hxl]
      refine ⟨_, c, rfl, hl, ?_⟩
      by_cases h0 : l = 0
      · exact .inl (by omega)
      · obtain ⟨b, o, s⟩ := x
        have hs : s = none := by
          have := World.cell?_spot (hcell 0 (by omega))
          simpa [Addr.add] using this
        subst hs
        have hb : b < w.heap.size := by
          have := hcell 0 (by omega)
          by_cases hb : b < w.heap.size
          · exact hb
          · simp [World.cell?, Addr.add, hb] at this
        refine .inr ⟨b, o, rfl, hb, fun j hj => ?_⟩
        have hj' : j < zs.length := by omega
        have hcj := hcell j hj'
        have hw := hwz (zs.getD j 0) (by rw [List.getD_eq_getElem?_getD, List.getElem?_eq_getElem hj']; simp)
        obtain ⟨n, hn, hlt⟩ := word_of hw
        refine ⟨.int .u64 (zs.getD j 0), by rw [← add_none]; exact hcj, rfl, ?_⟩
        show Value.int .u64 (zs.getD j 0) = .int .u64 _
        have e : (((zs.take l).map Int.toNat).getD j 0 : Nat) = n := by
          rw [List.getD_eq_getElem?_getD, List.getElem?_map, List.getElem?_take, if_pos (by omega), List.getElem?_eq_getElem hj']
          rw [List.getD_eq_getElem?_getD, List.getElem?_eq_getElem hj'] at hn
          simp at hn ⊢
          rw [hn]; simp
        rw [e, hn]
    · intro x hx
      rw [List.mem_map] at hx
      obtain ⟨z, hz1, rfl⟩ := hx
      obtain ⟨n, rfl, hlt⟩ := word_of (hwz z (List.mem_of_mem_take hz1))
      simpa using hlt

/-- An array of two rows of words. -/
theorem open_rows2 {r : Reach} {b0 : Nat} {t e e' : TypeId} {v : Value} {d : DataW H} {ps : List MemPlace} (ht : P.underlying t = some (.array 2 e)) (he : P.underlying e = some (.slice e')) (he' : P.underlying e' = some (.int .u64)) (hc : P.cellsOf e = 1) (hc' : P.cellsOf e' = 1) (hn : P.cellsOf t = 2)
    (hval : Value.okWide P w r b0 t v) (hd : DataW.Trod enc P w base spare held t v d ps) :
    ∃ xs ys : List Nat, Rep w (fun b => b < w.heap.size) (.agg 2 (two (u64s xs) (u64s ys))) v ∧ (∀ x, x ∈ xs → x < 18446744073709551616) ∧ ∀ x, x ∈ ys → x < 18446744073709551616 := by
  simp only [Value.okWide, ht] at hval
  obtain ⟨cs, rfl, hs, _⟩ := hval
  obtain ⟨fuel, hf⟩ := hd
  obtain ⟨zs, m, _, _, hl, hxl, hel⟩ := DataW.trod_array ht hf
  rw [hn] at hs
  obtain ⟨l⟩ := cs
  match l, hs with
  | [a, b], _ =>
    have h0 := hel 0 (by decide)
    have h1 := hel 1 (by decide)
    rw [hc] at h0 h1
    rw [List.getElem?_eq_getElem (by omega)] at h0 h1
    have h0 : DataW.trod enc P w base spare held m e [a] = some zs[0] := h0
    have h1 : DataW.trod enc P w base spare held m e [b] = some zs[1] := h1
    obtain ⟨v0, xs, e0, c0, r0, b0⟩ := open_rowT he he' hc' h0
    obtain ⟨v1, ys, e1, c1, r1, b1⟩ := open_rowT he he' hc' h1
    cases e0
    cases e1
    refine ⟨xs, ys, ⟨_, rfl, rfl, fun j hj => ?_⟩, b0, b1⟩
    match j, hj with
    | 0, _ => exact ⟨c0, r0⟩
    | 1, _ => exact ⟨c1, r1⟩

/-- An array of three rows of words. -/
theorem open_rows3 {r : Reach} {b0 : Nat} {t e e' : TypeId} {v : Value} {d : DataW H} {ps : List MemPlace} (ht : P.underlying t = some (.array 3 e)) (he : P.underlying e = some (.slice e')) (he' : P.underlying e' = some (.int .u64)) (hc : P.cellsOf e = 1) (hc' : P.cellsOf e' = 1) (hn : P.cellsOf t = 3)
    (hval : Value.okWide P w r b0 t v) (hd : DataW.Trod enc P w base spare held t v d ps) :
    ∃ xs ys zs : List Nat, Rep w (fun b => b < w.heap.size) (.agg 3 (three (u64s xs) (u64s ys) (u64s zs))) v ∧ (∀ x, x ∈ xs → x < 18446744073709551616) ∧ (∀ x, x ∈ ys → x < 18446744073709551616) ∧ ∀ x, x ∈ zs → x < 18446744073709551616 := by
  simp only [Value.okWide, ht] at hval
  obtain ⟨cs, rfl, hs, _⟩ := hval
  obtain ⟨fuel, hf⟩ := hd
  obtain ⟨zz, m, _, _, hl, hxl, hel⟩ := DataW.trod_array ht hf
  rw [hn] at hs
  obtain ⟨l⟩ := cs
  match l, hs with
  | [a, b, c], _ =>
    have h0 := hel 0 (by decide)
    have h1 := hel 1 (by decide)
    have h2 := hel 2 (by decide)
    rw [hc] at h0 h1 h2
    rw [List.getElem?_eq_getElem (by omega)] at h0 h1 h2
    have h0 : DataW.trod enc P w base spare held m e [a] = some zz[0] := h0
    have h1 : DataW.trod enc P w base spare held m e [b] = some zz[1] := h1
    have h2 : DataW.trod enc P w base spare held m e [c] = some zz[2] := h2
    obtain ⟨v0, xs, e0, c0, r0, b0⟩ := open_rowT he he' hc' h0
    obtain ⟨v1, ys, e1, c1, r1, b1⟩ := open_rowT he he' hc' h1
    obtain ⟨v2, zs, e2, c2, r2, b2⟩ := open_rowT he he' hc' h2
    cases e0
    cases e1
    cases e2
    refine ⟨xs, ys, zs, ⟨_, rfl, rfl, fun j hj => ?_⟩, b0, b1, b2⟩
    match j, hj with
    | 0, _ => exact ⟨c0, r0⟩
    | 1, _ => exact ⟨c1, r1⟩
    | 2, _ => exact ⟨c2, r2⟩

end

theorem getD_lt {xs : List Nat} {B : Nat} (hB : 0 < B) (h : ∀ x, x ∈ xs → x < B) (j : Nat) : xs.getD j 0 < B := by
  rw [List.getD_eq_getElem?_getD]
  cases hj : xs[j]? with
  | none => exact hB
  | some v => exact h v (List.mem_of_getElem? hj)

end Vinc
