/- From a statement's input to the values of the walks. -/
import Derived.Test.YtmpfgaebmdbdeaaGreatDoorVincN
import Derived.OpenShut
import Derived.ChangeOld
import Derived.ChangeSlices
import Derived.DataReads
namespace Vinc
open Go Go.RowKit Go.ChangeShapes Go.WideShapes

theorem word_of {a : Int} (w : (Lit.int .u64 a).wf = true) : ∃ n : Nat, a = (n : Int) ∧ n < 18446744073709551616 := by
  have h : 0 ≤ a ∧ a < 18446744073709551616 := by
    simp [Lit.wf, IntKind.min, IntKind.max, IntKind.signed, IntKind.bits] at w
    omega
  exact ⟨a.toNat, by omega, by omega⟩

theorem add_none (b o j : Nat) : (Addr.add ⟨b, o, none⟩ j) = ⟨b, o + j, none⟩ := by
  unfold Addr.add
  split <;> simp_all

section
variable {H : Type} {enc : TypeId × Value → H} {P : Program} {w : World} {base : Nat} {spare : Nat → Bool} {held : Bool}

/-- A slice of words. -/
theorem open_row {r : Reach} {b0 : Nat} {t e : TypeId} {v : Value} {d : DataW H} {ps : List MemPlace} (ht : P.underlying t = some (.slice e)) (he : P.underlying e = some (.int .u64)) (hc : P.cellsOf e = 1)
    (hval : Value.okWide P w r b0 t v) (hd : DataW.Trod enc P w base spare held t v d ps) :
    ∃ xs : List Nat, Rep w (fun b => b < w.heap.size) (u64s xs) v ∧ ∀ x, x ∈ xs → x < 18446744073709551616 := by
  obtain ⟨a, len, cap, rfl⟩ := okWide_slice ht hval
  obtain ⟨fuel, hf⟩ := hd
  rcases open_ints ht he hc hf with ⟨hcs, _⟩ | ⟨x, l, c, zs, hcs, _, hl, hm, hz, _, hcell, hwz⟩
  · simp [Value.cells] at hcs
    obtain ⟨rfl, rfl, rfl⟩ := hcs
    exact ⟨[], ⟨none, 0, rfl, Nat.le_refl _, .inl (by simp)⟩, by simp⟩
  · simp [Value.cells] at hcs
    obtain ⟨rfl, rfl, rfl⟩ := hcs
    have hlen : len ≤ zs.length := by
      rw [hz]; split <;> omega
    refine ⟨(zs.take len).map Int.toNat, ?_, ?_⟩
    · have hxl : ((zs.take len).map Int.toNat).length = len := by simp; omega
      show Rep w _ (.sl ((zs.take len).map Int.toNat).length 1 _) _
      rw [hxl]
      refine ⟨_, cap, rfl, hl, ?_⟩
      by_cases h0 : len = 0
      · exact .inl (by omega)
      · obtain ⟨b, o, s⟩ := x
        have hs : s = none := by
          have := World.cell?_spot (hcell 0 (by omega))
          simpa [Addr.add] using this
        subst hs
        have hb : b < w.heap.size := by
          have := hcell 0 (by omega)
          by_cases hb : b < w.heap.size
          · exact hb
          · simp [World.cell?, Addr.add, hb] at this
        refine .inr ⟨b, o, rfl, hb, fun j hj => ?_⟩
        have hj' : j < zs.length := by omega
        have hcj := hcell j hj'
        have hw := hwz (zs.getD j 0) (by rw [List.getD_eq_getElem?_getD, List.getElem?_eq_getElem hj']; simp)
        obtain ⟨n, hn, hlt⟩ := word_of hw
        refine ⟨.int .u64 (zs.getD j 0), by rw [← add_none]; exact hcj, rfl, ?_⟩
        show Value.int .u64 (zs.getD j 0) = .int .u64 _
        have e : (((zs.take len).map Int.toNat).getD j 0 : Nat) = n := by
          rw [List.getD_eq_getElem?_getD, List.getElem?_map, List.getElem?_take, if_pos (by omega), List.getElem?_eq_getElem hj']
          rw [List.getD_eq_getElem?_getD, List.getElem?_eq_getElem hj'] at hn
          simp at hn ⊢
          rw [hn]; simp
        rw [e, hn]
    · intro x hx
      rw [List.mem_map] at hx
      obtain ⟨z, hz1, rfl⟩ := hx
      obtain ⟨n, rfl, hlt⟩ := word_of (hwz z (List.mem_of_mem_take hz1))
      simpa using hlt

/-- An array of words. -/
theorem open_words {r : Reach} {b0 : Nat} {t e : TypeId} {n : Nat} {v : Value} {d : DataW H} {ps : List MemPlace} (ht : P.underlying t = some (.array n e)) (he : P.underlying e = some (.int .u64)) (hc : P.cellsOf e = 1)
    (hval : Value.okWide P w r b0 t v) (hd : DataW.Trod enc P w base spare held t v d ps) :
    ∃ cs : Array Value, v = .agg cs ∧ cs.size = P.cellsOf t ∧ ∀ i, i < n → ∃ x : Nat, cs[i]? = some (.int .u64 x) ∧ x < 18446744073709551616 := by
  simp only [Value.okWide, ht] at hval
  obtain ⟨cs, rfl, hs, _⟩ := hval
  refine ⟨cs, rfl, hs, fun i hi => ?_⟩
  obtain ⟨fuel, hf⟩ := hd
  obtain ⟨xs, m, _, _, hl, hxl, hel⟩ := DataW.trod_array ht hf
  have h1 := hel i hi
  rw [hc, Nat.mul_one] at h1
  have h2 : i < xs.length := by omega
  rw [List.getElem?_eq_getElem h2] at h1
  obtain ⟨z, hz, _, hw⟩ := DataW.trod_int he h1
  obtain ⟨x, rfl, hlt⟩ := word_of hw
  refine ⟨x, ?_, hlt⟩
  have h3 : List.take 1 (List.drop i cs.toList) = [Value.int .u64 x] := hz
  have h4 : (List.take 1 (List.drop i cs.toList))[0]? = some (Value.int .u64 x) := by rw [h3]; rfl
  rw [List.getElem?_take, if_pos (by omega), List.getElem?_drop] at h4
  simpa using h4

theorem open_words2 {r : Reach} {b0 : Nat} {t e : TypeId} {v : Value} {d : DataW H} {ps : List MemPlace} (ht : P.underlying t = some (.array 2 e)) (he : P.underlying e = some (.int .u64)) (hc : P.cellsOf e = 1) (hn : P.cellsOf t = 2)
    (hval : Value.okWide P w r b0 t v) (hd : DataW.Trod enc P w base spare held t v d ps) :
    ∃ x y : Nat, v = .agg #[.int .u64 (x : Int), .int .u64 (y : Int)] ∧ x < 18446744073709551616 ∧ y < 18446744073709551616 := by
  obtain ⟨cs, rfl, hs, h⟩ := open_words ht he hc hval hd
  obtain ⟨x, hx, bx⟩ := h 0 (by omega)
  obtain ⟨y, hy, by'⟩ := h 1 (by omega)
  refine ⟨x, y, ?_, bx, by'⟩
  rw [hn] at hs
  obtain ⟨l⟩ := cs
  match l, hs with
  | [a, b], _ =>
    simp at hx hy
    rw [hx, hy]

theorem open_words3 {r : Reach} {b0 : Nat} {t e : TypeId} {v : Value} {d : DataW H} {ps : List MemPlace} (ht : P.underlying t = some (.array 3 e)) (he : P.underlying e = some (.int .u64)) (hc : P.cellsOf e = 1) (hn : P.cellsOf t = 3)
    (hval : Value.okWide P w r b0 t v) (hd : DataW.Trod enc P w base spare held t v d ps) :
    ∃ x y z : Nat, v = .agg #[.int .u64 (x : Int), .int .u64 (y : Int), .int .u64 (z : Int)] ∧ x < 18446744073709551616 ∧ y < 18446744073709551616 ∧ z < 18446744073709551616 := by
  obtain ⟨cs, rfl, hs, h⟩ := open_words ht he hc hval hd
  obtain ⟨x, hx, bx⟩ := h 0 (by omega)
  obtain ⟨y, hy, by'⟩ := h 1 (by omega)
  obtain ⟨z, hz, bz⟩ := h 2 (by omega)
  refine ⟨x, y, z, ?_, bx, by', bz⟩
  rw [hn] at hs
  obtain ⟨l⟩ := cs
  match l, hs with
  | [a, b, c], _ =>
    simp at hx hy hz
    rw [hx, hy, hz]

theorem rep_arr2 {ok : Nat → Prop} (x y : Nat) : Rep w ok (.agg 2 (two (u64 x) (u64 y))) (.agg #[.int .u64 (x : Int), .int .u64 (y : Int)]) :=
  ⟨_, rfl, rfl, fun j hj => by
    match j, hj with
    | 0, _ => exact ⟨rfl, rfl⟩
    | 1, _ => exact ⟨rfl, rfl⟩⟩

theorem rep_arr3 {ok : Nat → Prop} (x y z : Nat) : Rep w ok (.agg 3 (three (u64 x) (u64 y) (u64 z))) (.agg #[.int .u64 (x : Int), .int .u64 (y : Int), .int .u64 (z : Int)]) :=
  ⟨_, rfl, rfl, fun j hj => by
    match j, hj with
    | 0, _ => exact ⟨rfl, rfl⟩
    | 1, _ => exact ⟨rfl, rfl⟩
    | 2, _ => exact ⟨rfl, rfl⟩⟩

end
end Vinc
