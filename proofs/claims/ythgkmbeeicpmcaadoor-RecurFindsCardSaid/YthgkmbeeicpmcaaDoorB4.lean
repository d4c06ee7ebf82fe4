/- Part 4 of the proof's texts, joined: VincS, VincQ, VincRec, VincBm, VincFr, VincBk, VincUp, VincUr, VincGa. -/
import Derived.Test.YthgkmbeeicpmcaaDoorB3
import Derived.OpenShut
import Derived.ChangeOld
import Derived.ChangeSlices
import Derived.DataReads

/- From a statement's input to the values of the walks. -/
namespace Vinc
open Go Go.RowKit Go.ChangeShapes Go.WideShapes

theorem word_of {a : Int} (w : (Lit.int .u64 a).wf = true) : ∃ n : Nat, a = (n : Int) ∧ n < 18446744073709551616 := by
  have h : 0 ≤ a ∧ a < 18446744073709551616 := by
    simp [Lit.wf, IntKind.min, IntKind.max, IntKind.signed, IntKind.bits] at w
    omega
  exact ⟨a.toNat, by omega, by omega⟩

theorem add_none (b o j : Nat) : (Addr.add ⟨b, o, none⟩ j) = ⟨b, o + j, none⟩ := by
  unfold Addr.add
  split <;> simp_all

section
variable {H : Type} {enc : TypeId × Value → H} {P : Program} {w : World} {base : Nat} {spare : Nat → Bool} {held : Bool}

/-- A slice of words. -/
theorem open_row {r : Reach} {b0 : Nat} {t e : TypeId} {v : Value} {d : DataW H} {ps : List MemPlace} (ht : P.underlying t = some (.slice e)) (he : P.underlying e = some (.int .u64)) (hc : P.cellsOf e = 1)
    (hval : Value.okWide P w r b0 t v) (hd : DataW.Trod enc P w base spare held t v d ps) :
    ∃ xs : List Nat, Rep w (fun b => b < w.heap.size) (u64s xs) v ∧ ∀ x, x ∈ xs → x < 18446744073709551616 := by
  obtain ⟨a, len, cap, rfl⟩ := okWide_slice ht hval
  obtain ⟨fuel, hf⟩ := hd
  rcases open_ints ht he hc hf with ⟨hcs, _⟩ | ⟨x, l, c, zs, hcs, _, hl, hm, hz, _, hcell, hwz⟩
  · simp [Value.cells] at hcs
    obtain ⟨rfl, rfl, rfl⟩ := hcs
    exact ⟨[], ⟨none, 0, rfl, Nat.le_refl _, .inl (by simp)⟩, by simp⟩
  · simp [Value.cells] at hcs
    obtain ⟨rfl, rfl, rfl⟩ := hcs
    have hlen : len ≤ zs.length := by
      rw [hz]; split <;> omega
    refine ⟨(zs.take len).map Int.toNat, ?_, ?_⟩
    · have hxl : ((zs.take len).map Int.toNat).length = len := by simp; omega
      show Rep w _ (.sl ((zs.take len).map Int.toNat).length 1 _) _
      rw [hxl]
      refine ⟨_, cap, rfl, hl, ?_⟩
      by_cases h0 : len = 0
      · exact .inl (by omega)
      · obtain ⟨b, o, s⟩ := x
        have hs : s = none := by
          have := World.cell?_spot (hcell 0 (by omega))
          simpa [Addr.add] using this
        subst hs
        have hb : b < w.heap.size := by
          have := hcell 0 (by omega)
          by_cases hb : b < w.heap.size
          · exact hb
          · simp [World.cell?, Addr.add, hb] at this
        refine .inr ⟨b, o, rfl, hb, fun j hj => ?_⟩
        have hj' : j < zs.length := by omega
        have hcj := hcell j hj'
        have hw := hwz (zs.getD j 0) (by rw [List.getD_eq_getElem?_getD, List.getElem?_eq_getElem hj']; simp)
        obtain ⟨n, hn, hlt⟩ := word_of hw
        refine ⟨.int .u64 (zs.getD j 0), by rw [← add_none]; exact hcj, rfl, ?_⟩
        show Value.int .u64 (zs.getD j 0) = .int .u64 _
        have e : (((zs.take len).map Int.toNat).getD j 0 : Nat) = n := by
          rw [List.getD_eq_getElem?_getD, List.getElem?_map, List.getElem?_take, if_pos (by omega), List.getElem?_eq_getElem hj']
          rw [List.getD_eq_getElem?_getD, List.getElem?_eq_getElem hj'] at hn
          simp at hn ⊢
          rw [hn]; simp
        rw [e, hn]
    · intro x hx
      rw [List.mem_map] at hx
      obtain ⟨z, hz1, rfl⟩ := hx
      obtain ⟨n, rfl, hlt⟩ := word_of (hwz z (List.mem_of_mem_take hz1))
      simpa using hlt

/-- An array of words. -/
theorem open_words {r : Reach} {b0 : Nat} {t e : TypeId} {n : Nat} {v : Value} {d : DataW H} {ps : List MemPlace} (ht : P.underlying t = some (.array n e)) (he : P.underlying e = some (.int .u64)) (hc : P.cellsOf e = 1)
    (hval : Value.okWide P w r b0 t v) (hd : DataW.Trod enc P w base spare held t v d ps) :
    ∃ cs : Array Value, v = .agg cs ∧ cs.size = P.cellsOf t ∧ ∀ i, i < n → ∃ x : Nat, cs[i]? = some (.int .u64 x) ∧ x < 18446744073709551616 := by
  simp only [Value.okWide, ht] at hval
  obtain ⟨cs, rfl, hs, _⟩ := hval
  refine ⟨cs, rfl, hs, fun i hi => ?_⟩
  obtain ⟨fuel, hf⟩ := hd
  obtain ⟨xs, m, _, _, hl, hxl, hel⟩ := DataW.trod_array ht hf
  have h1 := hel i hi
  rw [hc, Nat.mul_one] at h1
  have h2 : i < xs.length := by omega
  rw [List.getElem?_eq_getElem h2] at h1
  obtain ⟨z, hz, _, hw⟩ := DataW.trod_int he h1
  obtain ⟨x, rfl, hlt⟩ := word_of hw
  refine ⟨x, ?_, hlt⟩
  have h3 : List.take 1 (List.drop i cs.toList) = [Value.int .u64 x] := hz
  have h4 : (List.take 1 (List.drop i cs.toList))[0]? = some (Value.int .u64 x) := by rw [h3]; rfl
  rw [List.getElem?_take, if_pos (by omega), List.getElem?_drop] at h4
  simpa using h4

theorem open_words2 {r : Reach} {b0 : Nat} {t e : TypeId} {v : Value} {d : DataW H} {ps : List MemPlace} (ht : P.underlying t = some (.array 2 e)) (he : P.underlying e = some (.int .u64)) (hc : P.cellsOf e = 1) (hn : P.cellsOf t = 2)
    (hval : Value.okWide P w r b0 t v) (hd : DataW.Trod enc P w base spare held t v d ps) :
    ∃ x y : Nat, v = .agg #[.int .u64 (x : Int), .int .u64 (y : Int)] ∧ x < 18446744073709551616 ∧ y < 18446744073709551616 := by
  obtain ⟨cs, rfl, hs, h⟩ := open_words ht he hc hval hd
  obtain ⟨x, hx, bx⟩ := h 0 (by omega)
  obtain ⟨y, hy, by'⟩ := h 1 (by omega)
  refine ⟨x, y, ?_, bx, by'⟩
  rw [hn] at hs
  obtain ⟨l⟩ := cs
  match l, hs with
  | [a, b], _ =>
    simp at hx hy
    rw [hx, hy]

theorem open_words3 {r : Reach} {b0 : Nat} {t e : TypeId} {v : Value} {d : DataW H} {ps : List MemPlace} (ht : P.underlying t = some (.array 3 e)) (he : P.underlying e = some (.int .u64)) (hc : P.cellsOf e = 1) (hn : P.cellsOf t = 3)
    (hval : Value.okWide P w r b0 t v) (hd : DataW.Trod enc P w base spare held t v d ps) :
    ∃ x y z : Nat, v = .agg #[.int .u64 (x : Int), .int .u64 (y : Int), .int .u64 (z : Int)] ∧ x < 18446744073709551616 ∧ y < 18446744073709551616 ∧ z < 18446744073709551616 := by
  obtain ⟨cs, rfl, hs, h⟩ := open_words ht he hc hval hd
  obtain ⟨x, hx, bx⟩ := h 0 (by omega)
  obtain ⟨y, hy, by'⟩ := h 1 (by omega)
  obtain ⟨z, hz, bz⟩ := h 2 (by omega)
  refine ⟨x, y, z, ?_, bx, by', bz⟩
  rw [hn] at hs
  obtain ⟨l⟩ := cs
  match l, hs with
  | [a, b, c], _ =>
    simp at hx hy hz
    rw [hx, hy, hz]

theorem rep_arr2 {ok : Nat → Prop} (x y : Nat) : Rep w ok (.agg 2 (two (u64 x) (u64 y))) (.agg #[.int .u64 (x : Int), .int .u64 (y : Int)]) :=
  ⟨_, rfl, rfl, fun j hj => by
    match j, hj with
    | 0, _ => exact ⟨rfl, rfl⟩
    | 1, _ => exact ⟨rfl, rfl⟩⟩

theorem rep_arr3 {ok : Nat → Prop} (x y z : Nat) : Rep w ok (.agg 3 (three (u64 x) (u64 y) (u64 z))) (.agg #[.int .u64 (x : Int), .int .u64 (y : Int), .int .u64 (z : Int)]) :=
  ⟨_, rfl, rfl, fun j hj => by
    match j, hj with
    | 0, _ => exact ⟨rfl, rfl⟩
    | 1, _ => exact ⟨rfl, rfl⟩
    | 2, _ => exact ⟨rfl, rfl⟩⟩

end
end Vinc

/- From a statement's input to the values of the walks: two rows of words in an array. -/
set_option linter.unusedVariables false
namespace Vinc
open Go Go.RowKit Go.ChangeShapes Go.WideShapes

section
variable {H : Type} {enc : TypeId × Value → H} {P : Program} {w : World} {base : Nat} {spare : Nat → Bool} {held : Bool}

theorem open_rowT {t e : TypeId} {fuel : Nat} {cs : List Value} {x : DataW H × List MemPlace} (ht : P.underlying t = some (.slice e)) (he : P.underlying e = some (.int .u64)) (hc : P.cellsOf e = 1)
    (hf : DataW.trod enc P w base spare held fuel t cs = some x) :
    ∃ (v : Value) (xs : List Nat), cs = [v] ∧ isCell v = true ∧ Rep w (fun b => b < w.heap.size) (u64s xs) v ∧ ∀ x, x ∈ xs → x < 18446744073709551616 := by
  rcases open_ints ht he hc hf with ⟨hcs, _⟩ | ⟨x, l, c, zs, hcs, _, hl, hm, hz, _, hcell, hwz⟩
  · exact ⟨_, [], hcs, rfl, ⟨none, 0, rfl, Nat.le_refl _, .inl (by simp)⟩, by simp⟩
  · have hlen : l ≤ zs.length := by
      rw [hz]; split <;> omega
    refine ⟨_, (zs.take l).map Int.toNat, hcs, rfl, ?_, ?_⟩
    · have hxl : ((zs.take l).map Int.toNat).length = l := by simp; omega
      show Rep w _ (.sl ((zs.take l).map Int.toNat).length 1 _) _
      rw [hxl]
      refine ⟨_, c, rfl, hl, ?_⟩
      by_cases h0 : l = 0
      · exact .inl (by omega)
      · obtain ⟨b, o, s⟩ := x
        have hs : s = none := by
          have := World.cell?_spot (hcell 0 (by omega))
          simpa [Addr.add] using this
        subst hs
        have hb : b < w.heap.size := by
          have := hcell 0 (by omega)
          by_cases hb : b < w.heap.size
          · exact hb
          · simp [World.cell?, Addr.add, hb] at this
        refine .inr ⟨b, o, rfl, hb, fun j hj => ?_⟩
        have hj' : j < zs.length := by omega
        have hcj := hcell j hj'
        have hw := hwz (zs.getD j 0) (by rw [List.getD_eq_getElem?_getD, List.getElem?_eq_getElem hj']; simp)
        obtain ⟨n, hn, hlt⟩ := word_of hw
        refine ⟨.int .u64 (zs.getD j 0), by rw [← add_none]; exact hcj, rfl, ?_⟩
        show Value.int .u64 (zs.getD j 0) = .int .u64 _
        have e : (((zs.take l).map Int.toNat).getD j 0 : Nat) = n := by
          rw [List.getD_eq_getElem?_getD, List.getElem?_map, List.getElem?_take, if_pos (by omega), List.getElem?_eq_getElem hj']
          rw [List.getD_eq_getElem?_getD, List.getElem?_eq_getElem hj'] at hn
          simp at hn ⊢
          rw [hn]; simp
        rw [e, hn]
    · intro x hx
      rw [List.mem_map] at hx
      obtain ⟨z, hz1, rfl⟩ := hx
      obtain ⟨n, rfl, hlt⟩ := word_of (hwz z (List.mem_of_mem_take hz1))
      simpa using hlt

/-- An array of two whole numbers. -/
theorem open_i2 {r : Reach} {b0 : Nat} {t e : TypeId} {v : Value} {d : DataW H} {ps : List MemPlace} (ht : P.underlying t = some (.array 2 e)) (he : P.underlying e = some (.int .i64)) (hc : P.cellsOf e = 1) (hn : P.cellsOf t = 2)
    (hval : Value.okWide P w r b0 t v) (hd : DataW.Trod enc P w base spare held t v d ps) : ∃ x y : Int, v = .agg #[.int .i64 x, .int .i64 y] := by
  simp only [Value.okWide, ht] at hval
  obtain ⟨cs, rfl, hs, _⟩ := hval
  obtain ⟨fuel, hf⟩ := hd
  obtain ⟨xs, m, _, _, hl, hxl, hel⟩ := DataW.trod_array ht hf
  have key : ∀ i, i < 2 → ∃ x : Int, cs[i]? = some (.int .i64 x) := fun i hi => by
    have h1 := hel i hi
    rw [hc, Nat.mul_one] at h1
    have h2 : i < xs.length := by omega
    rw [List.getElem?_eq_getElem h2] at h1
    obtain ⟨z, hz, _, hw⟩ := DataW.trod_int he h1
    refine ⟨z, ?_⟩
    have h3 : List.take 1 (List.drop i cs.toList) = [Value.int .i64 z] := hz
    have h4 : (List.take 1 (List.drop i cs.toList))[0]? = some (Value.int .i64 z) := by rw [h3]; rfl
    rw [List.getElem?_take, if_pos (by omega), List.getElem?_drop] at h4
    simpa using h4
  obtain ⟨x, hx⟩ := key 0 (by omega)
  obtain ⟨y, hy⟩ := key 1 (by omega)
  refine ⟨x, y, ?_⟩
  rw [hn] at hs
  obtain ⟨l⟩ := cs
  clear hel key hf
  match l, hs, hx, hy with
  | [a, b], _, hx, hy =>
    simp at hx hy
    rw [hx, hy]

theorem rep_arrI {ok : Nat → Prop} (x y : Int) : Rep w ok (.agg 2 (two (i64 x) (i64 y))) (.agg #[.int .i64 x, .int .i64 y]) :=
  ⟨_, rfl, rfl, fun j hj => by
    match j, hj with
    | 0, _ => exact ⟨rfl, rfl⟩
    | 1, _ => exact ⟨rfl, rfl⟩⟩

/-- An array of two rows of words. -/
theorem open_rows2 {r : Reach} {b0 : Nat} {t e e' : TypeId} {v : Value} {d : DataW H} {ps : List MemPlace} (ht : P.underlying t = some (.array 2 e)) (he : P.underlying e = some (.slice e')) (he' : P.underlying e' = some (.int .u64)) (hc : P.cellsOf e = 1) (hc' : P.cellsOf e' = 1) (hn : P.cellsOf t = 2)
    (hval : Value.okWide P w r b0 t v) (hd : DataW.Trod enc P w base spare held t v d ps) :
    ∃ xs ys : List Nat, Rep w (fun b => b < w.heap.size) (.agg 2 (two (u64s xs) (u64s ys))) v ∧ (∀ x, x ∈ xs → x < 18446744073709551616) ∧ ∀ x, x ∈ ys → x < 18446744073709551616 := by
  simp only [Value.okWide, ht] at hval
  obtain ⟨cs, rfl, hs, _⟩ := hval
  obtain ⟨fuel, hf⟩ := hd
  obtain ⟨zs, m, _, _, hl, hxl, hel⟩ := DataW.trod_array ht hf
  rw [hn] at hs
  obtain ⟨l⟩ := cs
  match l, hs with
  | [a, b], _ =>
    have h0 := hel 0 (by decide)
    have h1 := hel 1 (by decide)
    rw [hc] at h0 h1
    rw [List.getElem?_eq_getElem (by omega)] at h0 h1
    have h0 : DataW.trod enc P w base spare held m e [a] = some zs[0] := h0
    have h1 : DataW.trod enc P w base spare held m e [b] = some zs[1] := h1
    obtain ⟨v0, xs, e0, c0, r0, b0⟩ := open_rowT he he' hc' h0
    obtain ⟨v1, ys, e1, c1, r1, b1⟩ := open_rowT he he' hc' h1
    cases e0
    cases e1
    refine ⟨xs, ys, ⟨_, rfl, rfl, fun j hj => ?_⟩, b0, b1⟩
    match j, hj with
    | 0, _ => exact ⟨c0, r0⟩
    | 1, _ => exact ⟨c1, r1⟩

/-- An array of three rows of words. -/
theorem open_rows3 {r : Reach} {b0 : Nat} {t e e' : TypeId} {v : Value} {d : DataW H} {ps : List MemPlace} (ht : P.underlying t = some (.array 3 e)) (he : P.underlying e = some (.slice e')) (he' : P.underlying e' = some (.int .u64)) (hc : P.cellsOf e = 1) (hc' : P.cellsOf e' = 1) (hn : P.cellsOf t = 3)
    (hval : Value.okWide P w r b0 t v) (hd : DataW.Trod enc P w base spare held t v d ps) :
    ∃ xs ys zs : List Nat, Rep w (fun b => b < w.heap.size) (.agg 3 (three (u64s xs) (u64s ys) (u64s zs))) v ∧ (∀ x, x ∈ xs → x < 18446744073709551616) ∧ (∀ x, x ∈ ys → x < 18446744073709551616) ∧ ∀ x, x ∈ zs → x < 18446744073709551616 := by
  simp only [Value.okWide, ht] at hval
  obtain ⟨cs, rfl, hs, _⟩ := hval
  obtain ⟨fuel, hf⟩ := hd
  obtain ⟨zz, m, _, _, hl, hxl, hel⟩ := DataW.trod_array ht hf
  rw [hn] at hs
  obtain ⟨l⟩ := cs
  match l, hs with
  | [a, b, c], _ =>
    have h0 := hel 0 (by decide)
    have h1 := hel 1 (by decide)
    have h2 := hel 2 (by decide)
    rw [hc] at h0 h1 h2
    rw [List.getElem?_eq_getElem (by omega)] at h0 h1 h2
    have h0 : DataW.trod enc P w base spare held m e [a] = some zz[0] := h0
    have h1 : DataW.trod enc P w base spare held m e [b] = some zz[1] := h1
    have h2 : DataW.trod enc P w base spare held m e [c] = some zz[2] := h2
    obtain ⟨v0, xs, e0, c0, r0, b0⟩ := open_rowT he he' hc' h0
    obtain ⟨v1, ys, e1, c1, r1, b1⟩ := open_rowT he he' hc' h1
    obtain ⟨v2, zs, e2, c2, r2, b2⟩ := open_rowT he he' hc' h2
    cases e0
    cases e1
    cases e2
    refine ⟨xs, ys, zs, ⟨_, rfl, rfl, fun j hj => ?_⟩, b0, b1, b2⟩
    match j, hj with
    | 0, _ => exact ⟨c0, r0⟩
    | 1, _ => exact ⟨c1, r1⟩
    | 2, _ => exact ⟨c2, r2⟩

end

theorem getD_lt {xs : List Nat} {B : Nat} (hB : 0 < B) (h : ∀ x, x ∈ xs → x < B) (j : Nat) : xs.getD j 0 < B := by
  rw [List.getD_eq_getElem?_getD]
  cases hj : xs[j]? with
  | none => exact hB
  | some v => exact h v (List.mem_of_getElem? hj)

end Vinc

/- What the code of recur and of its reference computes, as functions on lists of numbers. -/
set_option linter.unusedSimpArgs false
namespace Vinc.Num

/-- What is left of a difference. -/
def sb (x y m : Nat) : Nat := (x % m + m - y % m) % m

def missF (p : Nat) (r row : List Nat) (i0 : Nat) : Nat → Nat
  | 0 => row.getD i0 0 % p
  | i + 1 => (missF p r row i0 i + r.getD i 0 * row.getD (i0 - 1 - i) 0 % p) % p

def missN (p : Nat) (r row : List Nat) (i0 : Nat) : Nat := missF p r row i0 r.length

def grownN (r : List Nat) (n : Nat) : List Nat := r ++ List.replicate (n - r.length) 0

structure FS where
  now : List Nat
  old : List Nat
  was : Nat
  gap : Nat

/-- The terms that are taken off a rule. -/
def updN (p t : Nat) (old : List Nat) (gap : Nat) (xs : List Nat) : Nat → List Nat
  | 0 => xs
  | i + 1 => (updN p t old gap xs i).set (gap + i) (sb ((updN p t old gap xs i).getD (gap + i) 0) (t * old.getD i 0 % p) p)

def headN (p t : Nat) (gap : Nat) (xs : List Nat) : List Nat := xs.set (gap - 1) (sb (xs.getD (gap - 1) 0) t p)

def nextN (iv : Nat → Nat) (p d : Nat) (s : FS) : List Nat :=
  updN p (d * iv s.was % p) s.old s.gap (headN p (d * iv s.was % p) s.gap (grownN s.now (s.gap + s.old.length))) s.old.length

def stepN (iv : Nat → Nat) (p : Nat) (row : List Nat) (s : FS) (i : Nat) : FS :=
  if missN p s.now row i = 0 then ⟨s.now, s.old, s.was, s.gap + 1⟩
  else if i < 2 * s.now.length then ⟨nextN iv p (missN p s.now row i) s, s.old, s.was, s.gap + 1⟩
  else ⟨grownN (nextN iv p (missN p s.now row i) s) (i + 1 - s.now.length), s.now, missN p s.now row i, 1⟩

def findN (iv : Nat → Nat) (p : Nat) (row : List Nat) : Nat → FS
  | 0 => ⟨[], [], 1 % p, 1⟩
  | n + 1 => stepN iv p row (findN iv p row n) n

theorem length_updN (p t : Nat) (old : List Nat) (gap : Nat) (xs : List Nat) : ∀ i, (updN p t old gap xs i).length = xs.length
  | 0 => rfl
  | i + 1 => by simp [updN, length_updN p t old gap xs i]

theorem length_headN (p t gap : Nat) (xs : List Nat) : (headN p t gap xs).length = xs.length := by simp [headN]

theorem length_grownN (r : List Nat) (n : Nat) : (grownN r n).length = max n r.length := by simp [grownN]; omega

theorem getD_grownN (r : List Nat) (n j : Nat) : (grownN r n).getD j 0 = if j < r.length then r.getD j 0 else 0 := by
  unfold grownN
  rw [List.getD_eq_getElem?_getD, List.getElem?_append]
  split
  · rw [List.getD_eq_getElem?_getD]
  · rw [List.getElem?_replicate]; split <;> rfl

theorem length_nextN (iv : Nat → Nat) (p d : Nat) (s : FS) : (nextN iv p d s).length = max (s.gap + s.old.length) s.now.length := by
  simp [nextN, length_updN, length_headN, length_grownN]

/-- What is known of the lengths. -/
def FOk (s : FS) (n : Nat) : Prop := s.now.length + s.gap + s.old.length = n + 1 ∧ 1 ≤ s.gap

theorem stepN_ok (iv : Nat → Nat) (p : Nat) (row : List Nat) (s : FS) (n : Nat) (h : FOk s n) : FOk (stepN iv p row s n) (n + 1) := by
  obtain ⟨h1, h2⟩ := h
  unfold stepN
  split
  · exact ⟨by dsimp only; omega, by dsimp only; omega⟩
  · split
    · refine ⟨?_, by dsimp only; omega⟩
      show (nextN iv p _ s).length + (s.gap + 1) + s.old.length = _
      rw [length_nextN]; omega
    · refine ⟨?_, Nat.le_refl 1⟩
      show (grownN (nextN iv p _ s) _).length + 1 + s.now.length = _
      rw [length_grownN, length_nextN]; omega

theorem findN_ok (iv : Nat → Nat) (p : Nat) (row : List Nat) : ∀ n, FOk (findN iv p row n) n
  | 0 => ⟨rfl, Nat.le_refl 1⟩
  | n + 1 => stepN_ok iv p row _ n (findN_ok iv p row n)

/-! ### rules and rows -/

def charN (p : Nat) (r : List Nat) : List Nat := r.reverse.map (· % p) ++ [1]

theorem length_charN (p : Nat) (r : List Nat) : (charN p r).length = r.length + 1 := by simp [charN]

theorem charN_last (p : Nat) (r : List Nat) : (charN p r).getD r.length 0 = 1 := by
  simp [charN, List.getD_eq_getElem?_getD, List.getElem?_append]

theorem charN_at (p : Nat) (r : List Nat) (j : Nat) (hj : j < r.length) : (charN p r).getD j 0 = r.getD (r.length - 1 - j) 0 % p := by
  have h2 : r.length - 1 - j < r.length := by omega
  simp [charN, List.getD_eq_getElem?_getD, List.getElem?_append, hj, List.getElem?_reverse hj, h2]

/-- The rule's polynomial, as it is made. -/
def charK (p : Nat) (r : List Nat) : Nat → List Nat
  | 0 => (List.replicate (r.length + 1) 0).set r.length 1
  | i + 1 => (charK p r i).set (r.length - 1 - i) (r.getD i 0 % p)

theorem length_charK (p : Nat) (r : List Nat) : ∀ i, (charK p r i).length = r.length + 1
  | 0 => by simp [charK]
  | i + 1 => by simp [charK, length_charK p r i]

theorem charK_at (p : Nat) (r : List Nat) : ∀ i, i ≤ r.length → ∀ j, j ≤ r.length → (charK p r i).getD j 0 = if j = r.length then 1 else if r.length - 1 - j < i then r.getD (r.length - 1 - j) 0 % p else 0
  | 0, _, j, hj => by
    unfold charK
    rw [getD_set _ _ _ _ (by simp), getD_rep]
    simp
  | i + 1, hi, j, hj => by
    unfold charK
    rw [getD_set _ _ _ _ (by rw [length_charK]; omega), charK_at p r i (by omega) j hj]
    by_cases h1 : j = r.length
    · rw [if_neg (by omega), if_pos h1, if_pos h1]
    · rw [if_neg h1, if_neg h1]
      by_cases h2 : j = r.length - 1 - i
      · have h3 : r.length - 1 - j = i := by omega
        rw [if_pos h2, h3, if_pos (by omega)]
      · rw [if_neg h2]
        by_cases h3 : r.length - 1 - j < i
        · rw [if_pos h3, if_pos (by omega)]
        · rw [if_neg h3, if_neg (by omega)]

theorem charK_all (p : Nat) (r : List Nat) : charK p r r.length = charN p r := by
  refine list_eq (by rw [length_charK, length_charN]) fun j hj => ?_
  rw [length_charK] at hj
  rw [charK_at p r r.length (Nat.le_refl _) j (by omega)]
  by_cases h : j = r.length
  · rw [if_pos h, h, charN_last]
  · rw [if_neg h, if_pos (by omega), charN_at p r j (by omega)]

/-- Does a row go on by a rule? -/
def holdsB (p : Nat) (r row : List Nat) : Bool := decide (∀ i, i < row.length → r.length ≤ i → missN p r row i = 0)

/-- Numbers that are taken modulo p one by one. -/
def modK (p : Nat) (row : List Nat) : Nat → List Nat
  | 0 => row
  | i + 1 => (modK p row i).set i ((modK p row i).getD i 0 % p)

theorem length_modK (p : Nat) (row : List Nat) : ∀ i, (modK p row i).length = row.length
  | 0 => rfl
  | i + 1 => by simp [modK, length_modK p row i]

theorem modK_at (p : Nat) (row : List Nat) : ∀ i, i ≤ row.length → ∀ j, (modK p row i).getD j 0 = if j < i then row.getD j 0 % p else row.getD j 0
  | 0, _, j => by simp [modK]
  | i + 1, hi, j => by
    unfold modK
    rw [getD_set _ _ _ _ (by rw [length_modK]; omega), modK_at p row i (by omega) i, modK_at p row i (by omega) j, if_neg (Nat.lt_irrefl i)]
    by_cases h : j = i
    · rw [if_pos h, h, if_pos (by omega)]
    · rw [if_neg h]
      by_cases h2 : j < i
      · rw [if_pos h2, if_pos (by omega)]
      · rw [if_neg h2, if_neg (by omega)]

theorem modK_all (p : Nat) (row : List Nat) : modK p row row.length = row.map (· % p) := by
  refine list_eq (by rw [length_modK, List.length_map]) fun j hj => ?_
  rw [length_modK] at hj
  rw [modK_at p row _ (Nat.le_refl _), if_pos hj]
  simp [List.getD_eq_getElem?_getD, hj]

theorem set_last (ys : List Nat) (v : Nat) : (ys ++ [0]).set ys.length v = ys ++ [v] := by simp

def moreN (p : Nat) (r xs : List Nat) : Nat → List Nat
  | 0 => xs
  | n + 1 => moreN p r xs n ++ [sb 0 (missN p r (moreN p r xs n ++ [0]) (moreN p r xs n).length) p]

theorem length_moreN (p : Nat) (r xs : List Nat) : ∀ n, (moreN p r xs n).length = xs.length + n
  | 0 => rfl
  | n + 1 => by simp [moreN, length_moreN p r xs n]; omega

/-! ### the reference -/

def nextF (p : Nat) (r row : List Nat) : Nat → Nat
  | 0 => 0
  | i + 1 => (nextF p r row i + r.getD i 0 * row.getD (row.length - 1 - i) 0 % p) % p

def refNext (p : Nat) (r row : List Nat) : Nat := sb 0 (nextF p r row r.length) p

def refMore (p : Nat) (r xs : List Nat) : Nat → List Nat
  | 0 => xs
  | n + 1 => refMore p r xs n ++ [refNext p r (refMore p r xs n)]

theorem length_refMore (p : Nat) (r xs : List Nat) : ∀ n, (refMore p r xs n).length = xs.length + n
  | 0 => rfl
  | n + 1 => by simp [refMore, length_refMore p r xs n]; omega

def refHolds (p : Nat) (r row : List Nat) : Bool := decide (∀ i, i < row.length → r.length ≤ i → refNext p r (row.take i) = row.getD i 0 % p)

/-! ### they are the same -/

theorem nextF_lt {p : Nat} (hp : 0 < p) (r row : List Nat) : ∀ i, nextF p r row i < p
  | 0 => hp
  | _ + 1 => Nat.mod_lt _ hp

theorem miss_next {p : Nat} (hp : 0 < p) (r row ys : List Nat) (i0 : Nat) (hl : ys.length = i0) (hy : ∀ j, j < i0 → ys.getD j 0 = row.getD j 0) : ∀ i, i ≤ i0 → missF p r row i0 i = (row.getD i0 0 + nextF p r ys i) % p
  | 0, _ => rfl
  | i + 1, h => by
    have ih := miss_next hp r row ys i0 hl hy i (by omega)
    show (missF p r row i0 i + r.getD i 0 * row.getD (i0 - 1 - i) 0 % p) % p = (row.getD i0 0 + (nextF p r ys i + r.getD i 0 * ys.getD (ys.length - 1 - i) 0 % p) % p) % p
    rw [ih, hl, hy (i0 - 1 - i) (by omega), Nat.mod_add_mod]
    conv => rhs; rw [Nat.add_mod_mod]
    rw [Nat.add_assoc]

theorem sb_zero {p S x : Nat} (hp : 0 < p) (hS : S < p) : sb 0 S p = x % p ↔ (x + S) % p = 0 := by
  unfold sb
  rw [Nat.zero_mod, Nat.zero_add, Nat.mod_eq_of_lt hS]
  have hx := Nat.mod_lt x hp
  rw [Nat.add_mod, Nat.mod_eq_of_lt hS]
  generalize x % p = y at *
  by_cases h0 : S = 0
  · subst h0
    rw [Nat.sub_zero, Nat.mod_self, Nat.add_zero, Nat.mod_eq_of_lt hx]
    exact eq_comm
  · rw [Nat.mod_eq_of_lt (by omega : p - S < p)]
    constructor
    · rintro rfl
      rw [Nat.sub_add_cancel (by omega), Nat.mod_self]
    · intro h
      have h2 : y + S = p := by
        rcases Nat.lt_or_ge (y + S) p with h3 | h3
        · rw [Nat.mod_eq_of_lt h3] at h; omega
        · rw [Nat.mod_eq_sub_mod h3, Nat.mod_eq_of_lt (by omega)] at h; omega
      omega

theorem holds_ref {p : Nat} (hp : 0 < p) (r row : List Nat) : holdsB p r row = refHolds p r row := by
  unfold holdsB refHolds
  refine decide_eq_decide.mpr ?_
  refine forall_congr' fun i => imp_congr_right fun hi => imp_congr_right fun hr => ?_
  have h := miss_next hp r row (row.take i) i (by simp; omega) (fun j hj => by simp [List.getD_eq_getElem?_getD, List.getElem?_take_of_lt hj]) r.length hr
  show missF p r row i r.length = 0 ↔ refNext p r (row.take i) = _
  rw [h]
  exact (sb_zero hp (nextF_lt hp _ _ _)).symm

theorem more_ref {p : Nat} (hp : 0 < p) (r xs : List Nat) (hl : r.length ≤ xs.length) : ∀ n, moreN p r xs n = refMore p r xs n
  | 0 => rfl
  | n + 1 => by
    have ih := more_ref hp r xs hl n
    have hlen := length_refMore p r xs n
    unfold moreN refMore
    rw [ih]
    generalize refMore p r xs n = ys at *
    have h := miss_next hp r (ys ++ [0]) ys ys.length rfl (fun j hj => by simp [List.getD_eq_getElem?_getD, List.getElem?_append, hj]) r.length (by omega)
    have h0 : (ys ++ [0]).getD ys.length 0 = 0 := by simp [List.getD_eq_getElem?_getD]
    show ys ++ [sb 0 (missF p r (ys ++ [0]) ys.length r.length) p] = ys ++ [refNext p r ys]
    rw [h, h0, Nat.zero_add, Nat.mod_eq_of_lt (nextF_lt hp _ _ _)]
    rfl

/-! ### polynomials -/

/-- Numbers modulo p, laid one by one into a row of zeros. -/
def mapK (p : Nat) (a : List Nat) : Nat → List Nat
  | 0 => List.replicate a.length 0
  | i + 1 => (mapK p a i).set i (a.getD i 0 % p)

theorem length_mapK (p : Nat) (a : List Nat) : ∀ i, (mapK p a i).length = a.length
  | 0 => by simp [mapK]
  | i + 1 => by simp [mapK, length_mapK p a i]

theorem mapK_at (p : Nat) (a : List Nat) : ∀ i, i ≤ a.length → ∀ j, (mapK p a i).getD j 0 = if j < i then a.getD j 0 % p else 0
  | 0, _, j => by unfold mapK; rw [getD_rep]; simp
  | i + 1, hi, j => by
    unfold mapK
    rw [getD_set _ _ _ _ (by rw [length_mapK]; omega), mapK_at p a i (by omega) j]
    by_cases h : j = i
    · rw [if_pos h, h, if_pos (by omega)]
    · rw [if_neg h]
      by_cases h2 : j < i
      · rw [if_pos h2, if_pos (by omega)]
      · rw [if_neg h2, if_neg (by omega)]

theorem mapK_all (p : Nat) (a : List Nat) : mapK p a a.length = a.map (· % p) := by
  refine list_eq (by rw [length_mapK, List.length_map]) fun j hj => ?_
  rw [length_mapK] at hj
  rw [mapK_at p a _ (Nat.le_refl _), if_pos hj]
  simp [List.getD_eq_getElem?_getD, hj]

def trimL (a : List Nat) : Nat → Nat
  | 0 => 0
  | n + 1 => if a.getD n 0 = 0 then trimL a n else n + 1

theorem trimL_le (a : List Nat) : ∀ n, trimL a n ≤ n
  | 0 => Nat.le_refl 0
  | n + 1 => by unfold trimL; split; (have := trimL_le a n; omega); omega

def trimN (a : List Nat) : List Nat := a.take (trimL a a.length)

def normN (p : Nat) (a : List Nat) : List Nat := trimN (a.map (· % p))

def oneI (p x : Nat) (b : List Nat) (i : Nat) (out : List Nat) : Nat → List Nat
  | 0 => out
  | k + 1 => (oneI p x b i out k).set (i + k) (((oneI p x b i out k).getD (i + k) 0 + x * b.getD k 0 % p) % p)

def oneO (p : Nat) (a b : List Nat) : Nat → List Nat
  | 0 => List.replicate (a.length + b.length - 1) 0
  | i + 1 => oneI p (a.getD i 0) b i (oneO p a b i) b.length

theorem length_oneI (p x : Nat) (b : List Nat) (i : Nat) (out : List Nat) : ∀ k, (oneI p x b i out k).length = out.length
  | 0 => rfl
  | k + 1 => by simp [oneI, length_oneI p x b i out k]

theorem length_oneO (p : Nat) (a b : List Nat) : ∀ k, (oneO p a b k).length = a.length + b.length - 1
  | 0 => by simp [oneO]
  | k + 1 => by simp [oneO, length_oneI, length_oneO p a b k]

def oneN (p : Nat) (a b : List Nat) : List Nat := if a.length = 0 ∨ b.length = 0 then [] else oneO p a b a.length

def timesN (p : Nat) (a b : List Nat) : List Nat := trimN (oneN p a b)

def divI (p qi : Nat) (b : List Nat) (i : Nat) (left : List Nat) : Nat → List Nat
  | 0 => left
  | k + 1 => (divI p qi b i left k).set (i + k) (sb ((divI p qi b i left k).getD (i + k) 0) (qi * b.getD k 0 % p) p)

theorem length_divI (p qi : Nat) (b : List Nat) (i : Nat) (left : List Nat) : ∀ k, (divI p qi b i left k).length = left.length
  | 0 => rfl
  | k + 1 => by simp [divI, length_divI p qi b i left k]

def divO (p inv : Nat) (b : List Nat) : Nat → List Nat × List Nat → List Nat × List Nat
  | 0, s => s
  | n + 1, (q, left) => divO p inv b n (q.set n (left.getD (n + (b.length - 1)) 0 * inv % p), divI p (left.getD (n + (b.length - 1)) 0 * inv % p) b n left b.length)

theorem length_divO (p inv : Nat) (b : List Nat) : ∀ (n : Nat) (s : List Nat × List Nat), (divO p inv b n s).1.length = s.1.length ∧ (divO p inv b n s).2.length = s.2.length
  | 0, _ => ⟨rfl, rfl⟩
  | n + 1, (q, left) => by
    obtain ⟨h1, h2⟩ := length_divO p inv b n (q.set n (left.getD (n + (b.length - 1)) 0 * inv % p), divI p (left.getD (n + (b.length - 1)) 0 * inv % p) b n left b.length)
    exact ⟨h1.trans List.length_set, h2.trans (length_divI _ _ _ _ _ _)⟩

def divN (iv : Nat → Nat) (p : Nat) (a b : List Nat) : List Nat × List Nat :=
  if a.length < b.length then ([], a)
  else
    let s := divO p (iv (b.getD (b.length - 1) 0)) b (a.length - (b.length - 1)) (List.replicate (a.length - (b.length - 1)) 0, a)
    (trimN s.1, trimN s.2)

def remN (iv : Nat → Nat) (p : Nat) (a b : List Nat) : List Nat := (divN iv p a b).2

def powF (iv : Nat → Nat) (p : Nat) (b : List Nat) : Nat → Nat → List Nat → List Nat → List Nat
  | 0, _, out, _ => out
  | f + 1, n, out, a => if n = 0 then out else powF iv p b f (n / 2) (if n % 2 = 1 then remN iv p (timesN p out a) b else out) (remN iv p (timesN p a a) b)

/-- The factors stay short. -/
def powOk (iv : Nat → Nat) (p : Nat) (b : List Nat) : Nat → Nat → List Nat → List Nat → Prop
  | 0, n, _, _ => n = 0
  | f + 1, n, out, a => n = 0 ∨ (out.length ≤ 16 ∧ a.length ≤ 16 ∧ powOk iv p b f (n / 2) (if n % 2 = 1 then remN iv p (timesN p out a) b else out) (remN iv p (timesN p a a) b))

def powOkB (iv : Nat → Nat) (p : Nat) (b : List Nat) : Nat → Nat → List Nat → List Nat → Bool
  | 0, n, _, _ => Nat.beq n 0
  | f + 1, n, out, a => Nat.beq n 0 || (Nat.ble out.length 16 && Nat.ble a.length 16 && powOkB iv p b f (n / 2) (if n % 2 = 1 then remN iv p (timesN p out a) b else out) (remN iv p (timesN p a a) b))

theorem powOk_of (iv : Nat → Nat) (p : Nat) (b : List Nat) : ∀ (f n : Nat) (out a : List Nat), powOkB iv p b f n out a = true → powOk iv p b f n out a
  | 0, _, _, _, h => Nat.eq_of_beq_eq_true h
  | f + 1, n, out, a, h => by
    unfold powOkB at h
    rw [Bool.or_eq_true, Bool.and_eq_true, Bool.and_eq_true] at h
    rcases h with h | ⟨⟨h1, h2⟩, h3⟩
    · exact .inl (Nat.eq_of_beq_eq_true h)
    · exact .inr ⟨Nat.le_of_ble_eq_true h1, Nat.le_of_ble_eq_true h2, powOk_of iv p b f _ _ _ h3⟩

def farF (p : Nat) (x row : List Nat) : Nat → Nat
  | 0 => 0
  | i + 1 => (farF p x row i + x.getD i 0 * row.getD i 0 % p) % p

def farX (iv : Nat → Nat) (p : Nat) (r : List Nat) (n : Nat) : List Nat :=
  powF iv p (normN p (charN p r)) 64 n (remN iv p [1] (normN p (charN p r))) (remN iv p (normN p [0, 1]) (normN p (charN p r)))

def farOk (iv : Nat → Nat) (p : Nat) (r : List Nat) (n : Nat) : Prop :=
  powOk iv p (normN p (charN p r)) 64 n (remN iv p [1] (normN p (charN p r))) (remN iv p (normN p [0, 1]) (normN p (charN p r)))

/-! ### the chapter's example -/

def iv7 (x : Nat) : Nat := x ^ 5 % 7

theorem find7 : (findN iv7 7 [1, 1, 2, 3, 5, 1] 6).now = [6, 6] := by decide
theorem more7 : moreN 7 [6, 6] [1, 1] 3 = [1, 1, 2, 3, 5] := by decide
theorem far7 : farF 7 (farX iv7 7 [6, 6] 1000000) [1, 1] (farX iv7 7 [6, 6] 1000000).length = 1 := by decide +kernel

theorem farOk7 : farOk iv7 7 [6, 6] 1000000 := powOk_of _ _ _ _ _ _ _ (by decide +kernel)

theorem farL7 : (farX iv7 7 [6, 6] 1000000).length ≤ 2 := by decide +kernel

theorem charN7 : normN 7 (charN 7 [6, 6]) = [6, 6, 1] := by decide

end Vinc.Num

/- The rule that is found holds: what the search does, one step at a time. -/
set_option linter.unusedSimpArgs false
set_option linter.unusedVariables false
namespace Vinc.Num

/-- The same modulo p. -/
def cg (p : Nat) (a b : Int) : Prop := (p : Int) ∣ a - b

theorem cg.refl {p : Nat} (a : Int) : cg p a a := ⟨0, by omega⟩
theorem cg.of_eq {p : Nat} {a b : Int} (h : a = b) : cg p a b := h ▸ cg.refl a
theorem cg.symm {p : Nat} {a b : Int} (h : cg p a b) : cg p b a := by
  obtain ⟨k, hk⟩ := h
  exact ⟨-k, by rw [Int.mul_neg, ← hk]; omega⟩
theorem cg.trans {p : Nat} {a b c : Int} (h : cg p a b) (h' : cg p b c) : cg p a c := by
  obtain ⟨k, hk⟩ := h
  obtain ⟨l, hl⟩ := h'
  exact ⟨k + l, by rw [Int.mul_add, ← hk, ← hl]; omega⟩
theorem cg.add {p : Nat} {a b c d : Int} (h : cg p a b) (h' : cg p c d) : cg p (a + c) (b + d) := by
  obtain ⟨k, hk⟩ := h
  obtain ⟨l, hl⟩ := h'
  exact ⟨k + l, by rw [Int.mul_add, ← hk, ← hl]; omega⟩
theorem cg.neg {p : Nat} {a b : Int} (h : cg p a b) : cg p (-a) (-b) := by
  obtain ⟨k, hk⟩ := h
  exact ⟨-k, by rw [Int.mul_neg, ← hk]; omega⟩
theorem cg.sub {p : Nat} {a b c d : Int} (h : cg p a b) (h' : cg p c d) : cg p (a - c) (b - d) := by
  rw [Int.sub_eq_add_neg, Int.sub_eq_add_neg]
  exact h.add h'.neg
theorem cg.mul {p : Nat} {a b c d : Int} (h : cg p a b) (h' : cg p c d) : cg p (a * c) (b * d) := by
  obtain ⟨k, hk⟩ := h
  obtain ⟨l, hl⟩ := h'
  refine ⟨k * c + b * l, ?_⟩
  have e1 : a * c - b * d = (a - b) * c + b * (c - d) := by rw [Int.sub_mul, Int.mul_sub]; omega
  rw [e1, hk, hl, Int.mul_add, Int.mul_assoc, ← Int.mul_assoc b, Int.mul_comm b, Int.mul_assoc]
theorem cg.mod {p : Nat} (a : Nat) : cg p ((a % p : Nat) : Int) (a : Int) := by
  refine ⟨-((a / p : Nat) : Int), ?_⟩
  have := Nat.div_add_mod a p
  have h2 : ((p * (a / p) + a % p : Nat) : Int) = (a : Int) := congrArg _ this
  rw [Int.natCast_add, Int.natCast_mul] at h2
  rw [Int.mul_neg]
  omega
theorem cg.self {p : Nat} (a : Int) : cg p (p * a) 0 := ⟨a, by omega⟩

theorem cg.sb {p : Nat} (hp : 0 < p) (x y : Nat) : cg p (sb x y p : Nat) ((x : Int) - y) := by
  unfold Vinc.Num.sb
  have hy := Nat.mod_lt y hp
  refine (cg.mod _).trans ?_
  have e : ((x % p + p - y % p : Nat) : Int) = ((x % p : Nat) : Int) + p * 1 - ((y % p : Nat) : Int) := by omega
  rw [e]
  have h := ((cg.mod (p := p) x).add (cg.self (p := p) 1)).sub (cg.mod (p := p) y)
  rw [Int.add_zero] at h
  exact h

theorem cg.zero_iff {p : Nat} (hp : 0 < p) {a : Nat} (h : a < p) : cg p (a : Int) 0 ↔ a = 0 := by
  constructor
  · rintro ⟨k, hk⟩
    have h1 : (a : Int) = p * k := by omega
    have h2 : p ∣ a := Int.natCast_dvd_natCast.mp ⟨k, h1⟩
    exact Nat.eq_zero_of_dvd_of_lt h2 h
  · rintro rfl; exact cg.refl _

theorem cg.eq_of_lt {p : Nat} {a b : Nat} (h : cg p (a : Int) (b : Int)) (ha : a < p) (hb : b < p) : a = b := by
  obtain ⟨k, hk⟩ := h
  rcases Int.lt_trichotomy k 0 with hk0 | hk0 | hk0
  · have : (p : Int) * k ≤ p * (-1) := Int.mul_le_mul_of_nonneg_left (by omega) (by omega)
    omega
  · subst hk0; omega
  · have : (p : Int) * 1 ≤ p * k := Int.mul_le_mul_of_nonneg_left (by omega) (by omega)
    omega

/-- Sums. -/
def S (f : Nat → Int) : Nat → Int
  | 0 => 0
  | n + 1 => S f n + f n

theorem S_congr {f g : Nat → Int} : ∀ {n : Nat}, (∀ i, i < n → f i = g i) → S f n = S g n
  | 0, _ => rfl
  | n + 1, h => by
    show S f n + f n = S g n + g n
    rw [S_congr fun i hi => h i (by omega), h n (by omega)]

theorem S_cg {p : Nat} {f g : Nat → Int} : ∀ {n : Nat}, (∀ i, i < n → cg p (f i) (g i)) → cg p (S f n) (S g n)
  | 0, _ => cg.refl _
  | n + 1, h => (S_cg fun i hi => h i (by omega)).add (h n (by omega))

theorem S_add (f g : Nat → Int) : ∀ n, S (fun i => f i + g i) n = S f n + S g n
  | 0 => rfl
  | n + 1 => by
    show S (fun i => f i + g i) n + (f n + g n) = S f n + f n + (S g n + g n)
    rw [S_add f g n]; omega

theorem S_mul (c : Int) (f : Nat → Int) : ∀ n, S (fun i => c * f i) n = c * S f n
  | 0 => (Int.mul_zero c).symm
  | n + 1 => by
    show S (fun i => c * f i) n + c * f n = c * (S f n + f n)
    rw [S_mul c f n, Int.mul_add]

theorem S_zero {f : Nat → Int} : ∀ {n : Nat}, (∀ i, i < n → f i = 0) → S f n = 0
  | 0, _ => rfl
  | n + 1, h => by
    show S f n + f n = 0
    rw [S_zero fun i hi => h i (by omega), h n (by omega)]; rfl

theorem S_split (f : Nat → Int) (m : Nat) : ∀ n, S f (m + n) = S f m + S (fun i => f (m + i)) n
  | 0 => (Int.add_zero _).symm
  | n + 1 => by
    show S f (m + n) + f (m + n) = S f m + (S (fun i => f (m + i)) n + f (m + n))
    rw [S_split f m n]; omega

theorem S_rev (f : Nat → Int) : ∀ n, S (fun i => f (n - 1 - i)) n = S f n
  | 0 => rfl
  | n + 1 => by
    have h := S_split (fun i => f (n + 1 - 1 - i)) 1 n
    rw [Nat.add_comm 1 n] at h
    rw [h]
    have e1 : S (fun i => f (n + 1 - 1 - i)) 1 = f n := by show (0 : Int) + f (n + 1 - 1 - 0) = f n; rw [Int.zero_add]; rfl
    have e2 : S (fun i => f (n + 1 - 1 - (1 + i))) n = S (fun i => f (n - 1 - i)) n := S_congr fun i hi => by rw [show n + 1 - 1 - (1 + i) = n - 1 - i by omega]
    rw [e1, e2, S_rev f n]
    show f n + S f n = S f n + f n
    omega

theorem S_swap (f : Nat → Nat → Int) (m : Nat) : ∀ n, S (fun i => S (fun j => f i j) m) n = S (fun j => S (fun i => f i j) n) m
  | 0 => (S_zero fun _ _ => rfl).symm
  | n + 1 => by
    show S (fun i => S (fun j => f i j) m) n + S (fun j => f n j) m = S (fun j => S (fun i => f i j) n + f n j) m
    rw [S_swap f m n, S_add]

/-- More terms, all of them 0. -/
theorem S_more {f : Nat → Int} {m n : Nat} (h : m ≤ n) (h0 : ∀ i, m ≤ i → i < n → f i = 0) : S f n = S f m := by
  obtain ⟨k, rfl⟩ : ∃ k, n = m + k := ⟨n - m, by omega⟩
  rw [S_split, S_zero (f := fun i => f (m + i)) fun i hi => h0 _ (by omega) (by omega), Int.add_zero]

/-- A sum in which one term is another one. -/
theorem S_upd {f g : Nat → Int} {k : Nat} : ∀ {n : Nat}, k < n → (∀ i, i < n → i ≠ k → f i = g i) → S f n = S g n + (f k - g k)
  | 0, h, _ => by omega
  | n + 1, hk, h => by
    show S f n + f n = S g n + g n + (f k - g k)
    by_cases e : k = n
    · subst e
      rw [S_congr (f := f) (g := g) fun i hi => h i (by omega) (by omega)]
      omega
    · rw [S_upd (f := f) (g := g) (by omega) fun i hi hne => h i (by omega) hne, h n (by omega) (fun e' => e e'.symm)]
      omega

/-! ### what a rule misses -/

/-- The number at a place and what a rule takes of those ahead. -/
def ms (r row : List Nat) (i : Nat) : Int := (row.getD i 0 : Nat) + S (fun j => (r.getD j 0 : Nat) * (row.getD (i - 1 - j) 0 : Nat)) r.length

theorem missF_cg {p : Nat} (r row : List Nat) (i : Nat) : ∀ n, cg p (missF p r row i n : Nat) ((row.getD i 0 : Nat) + S (fun j => (r.getD j 0 : Nat) * (row.getD (i - 1 - j) 0 : Nat)) n)
  | 0 => by
    show cg p ((row.getD i 0 % p : Nat) : Int) ((row.getD i 0 : Nat) + 0)
    rw [Int.add_zero]
    exact cg.mod _
  | n + 1 => by
    have ih := missF_cg (p := p) r row i n
    show cg p (((missF p r row i n + r.getD n 0 * row.getD (i - 1 - n) 0 % p) % p : Nat) : Int) _
    refine (cg.mod _).trans ?_
    rw [Int.natCast_add]
    have h := ih.add (cg.mod (p := p) (r.getD n 0 * row.getD (i - 1 - n) 0))
    refine h.trans (cg.of_eq ?_)
    show _ = (row.getD i 0 : Int) + (S _ n + (r.getD n 0 : Nat) * (row.getD (i - 1 - n) 0 : Nat))
    rw [Int.natCast_mul]
    omega

theorem missN_cg {p : Nat} (r row : List Nat) (i : Nat) : cg p (missN p r row i : Nat) (ms r row i) := missF_cg r row i r.length

theorem missN_lt {p : Nat} (hp : 0 < p) (r row : List Nat) (i : Nat) : missN p r row i < p := by
  unfold missN
  cases r.length with
  | zero => exact Nat.mod_lt _ hp
  | succ n => exact Nat.mod_lt _ hp

theorem missN_zero {p : Nat} (hp : 0 < p) (r row : List Nat) (i : Nat) : missN p r row i = 0 ↔ cg p (ms r row i) 0 := by
  rw [← cg.zero_iff hp (missN_lt hp r row i)]
  exact ⟨fun h => (missN_cg r row i).symm.trans h, fun h => (missN_cg r row i).trans h⟩

/-- A rule's terms as a sum over more places. -/
theorem ms_more (r row : List Nat) (i n : Nat) (hn : r.length ≤ n) : ms r row i = (row.getD i 0 : Nat) + S (fun j => (r.getD j 0 : Nat) * (row.getD (i - 1 - j) 0 : Nat)) n := by
  unfold ms
  rw [S_more hn]
  intro j hj _
  rw [List.getD_eq_getElem?_getD, List.getElem?_eq_none hj]
  simp

theorem getD_headN {p t gap : Nat} {xs : List Nat} (h : gap - 1 < xs.length) (j : Nat) : (headN p t gap xs).getD j 0 = if j = gap - 1 then sb (xs.getD (gap - 1) 0) t p else xs.getD j 0 := by
  unfold headN
  rw [getD_set _ _ _ _ h]

/-- What taking terms off does to a rule's sum. -/
theorem updN_ms {p t : Nat} (hp : 0 < p) (old : List Nat) (gap : Nat) (xs row : List Nat) (i : Nat) (hx : gap + old.length ≤ xs.length) : ∀ n, n ≤ old.length →
    cg p (ms (updN p t old gap xs n) row i) (ms xs row i - t * S (fun j => (old.getD j 0 : Nat) * (row.getD (i - 1 - (gap + j)) 0 : Nat)) n)
  | 0, _ => by
    show cg p (ms xs row i) (ms xs row i - t * 0)
    rw [Int.mul_zero, Int.sub_zero]
    exact cg.refl _
  | n + 1, hn => by
    have ih := updN_ms (t := t) hp old gap xs row i hx n (by omega)
    have hl : (updN p t old gap xs n).length = xs.length := length_updN _ _ _ _ _ _
    unfold updN
    generalize updN p t old gap xs n = ys at ih hl ⊢
    have hk : gap + n < ys.length := by omega
    have h1 : ms (ys.set (gap + n) (sb (ys.getD (gap + n) 0) (t * old.getD n 0 % p) p)) row i = ms ys row i + ((sb (ys.getD (gap + n) 0) (t * old.getD n 0 % p) p : Nat) - (ys.getD (gap + n) 0 : Nat)) * (row.getD (i - 1 - (gap + n)) 0 : Nat) := by
      unfold ms
      rw [List.length_set, S_upd (k := gap + n) (g := fun j => (ys.getD j 0 : Int) * (row.getD (i - 1 - j) 0 : Nat)) hk]
      · rw [getD_set _ _ _ _ hk, if_pos rfl, Int.sub_mul]; omega
      · intro j _ hj
        rw [getD_set _ _ _ _ hk, if_neg hj]
    rw [h1]
    have h2 := cg.sb hp (ys.getD (gap + n) 0) (t * old.getD n 0 % p)
    have h3 := cg.mod (p := p) (t * old.getD n 0)
    generalize ys.getD (gap + n) 0 = y at h2 ⊢
    have h4 : cg p ((sb y (t * old.getD n 0 % p) p : Nat) - (y : Int)) (-(t * (old.getD n 0 : Nat))) := by
      refine (h2.sub (cg.refl (y : Int))).trans ?_
      have e : (y : Int) - ((t * old.getD n 0 % p : Nat) : Int) - (y : Int) = -((t * old.getD n 0 % p : Nat) : Int) := by omega
      rw [e]
      have h5 := h3.neg
      rw [Int.natCast_mul] at h5
      exact h5
    refine (ih.add (h4.mul (cg.refl ((row.getD (i - 1 - (gap + n)) 0 : Nat) : Int)))).trans (cg.of_eq ?_)
    show _ = _ - t * (S _ n + (old.getD n 0 : Nat) * (row.getD (i - 1 - (gap + n)) 0 : Nat))
    rw [Int.mul_add, Int.neg_mul, Int.mul_assoc]
    omega

theorem ms_grownN (r : List Nat) (n : Nat) (row : List Nat) (i : Nat) : ms (grownN r n) row i = ms r row i := by
  have h : ms r row i = _ := ms_more r row i (grownN r n).length (by rw [length_grownN]; omega)
  rw [h]
  unfold ms
  congr 1
  refine S_congr fun j _ => ?_
  rw [getD_grownN]
  split
  · rfl
  · rename_i hj
    have e : r.getD j 0 = 0 := by rw [List.getD_eq_getElem?_getD, List.getElem?_eq_none (by omega : r.length ≤ j)]; rfl
    rw [e]

theorem headN_ms {p t gap : Nat} (hp : 0 < p) (xs row : List Nat) (i : Nat) (hx : gap - 1 < xs.length) : cg p (ms (headN p t gap xs) row i) (ms xs row i - t * (row.getD (i - 1 - (gap - 1)) 0 : Nat)) := by
  have h1 : ms (headN p t gap xs) row i = ms xs row i + ((sb (xs.getD (gap - 1) 0) t p : Nat) - (xs.getD (gap - 1) 0 : Nat)) * (row.getD (i - 1 - (gap - 1)) 0 : Nat) := by
    unfold ms headN
    rw [List.length_set, S_upd (k := gap - 1) (g := fun j => (xs.getD j 0 : Int) * (row.getD (i - 1 - j) 0 : Nat)) hx]
    · rw [getD_set _ _ _ _ hx, if_pos rfl, Int.sub_mul]; omega
    · intro j _ hj
      rw [getD_set _ _ _ _ hx, if_neg hj]
  rw [h1]
  have h2 := cg.sb hp (xs.getD (gap - 1) 0) t
  have h4 : cg p ((sb (xs.getD (gap - 1) 0) t p : Nat) - ((xs.getD (gap - 1) 0 : Nat) : Int)) (-t) := by
    refine (h2.sub (cg.refl ((xs.getD (gap - 1) 0 : Nat) : Int))).trans (cg.of_eq ?_)
    omega
  refine ((cg.refl (ms xs row i)).add (h4.mul (cg.refl ((row.getD (i - 1 - (gap - 1)) 0 : Nat) : Int)))).trans (cg.of_eq ?_)
  rw [Int.neg_mul]; omega

/-- What the new rule misses: what the old one misses, less so many times what the one ahead of its last growth missed so many places ago. -/
theorem nextN_ms {p : Nat} (hp : 0 < p) (iv : Nat → Nat) (d : Nat) (s : FS) (hg : 1 ≤ s.gap) (row : List Nat) (i : Nat) (hi : s.gap + s.old.length ≤ i) :
    cg p (ms (nextN iv p d s) row i) (ms s.now row i - (d * iv s.was % p : Nat) * ms s.old row (i - s.gap)) := by
  unfold nextN
  have hgl : s.gap + s.old.length ≤ (grownN s.now (s.gap + s.old.length)).length := by rw [length_grownN]; omega
  have h1 := updN_ms (t := d * iv s.was % p) hp s.old s.gap (headN p (d * iv s.was % p) s.gap (grownN s.now (s.gap + s.old.length))) row i (by rw [length_headN]; exact hgl) s.old.length (Nat.le_refl _)
  have h2 := headN_ms (t := d * iv s.was % p) (gap := s.gap) hp (grownN s.now (s.gap + s.old.length)) row i (by omega)
  rw [ms_grownN] at h2
  refine h1.trans ((h2.sub (cg.refl _)).trans (cg.of_eq ?_))
  unfold ms
  rw [show i - 1 - (s.gap - 1) = i - s.gap by omega]
  have e : S (fun j => (s.old.getD j 0 : Nat) * (row.getD (i - 1 - (s.gap + j)) 0 : Nat)) s.old.length = S (fun j => ((s.old.getD j 0 : Nat) : Int) * (row.getD (i - s.gap - 1 - j) 0 : Nat)) s.old.length :=
    S_congr fun j _ => by rw [show i - 1 - (s.gap + j) = i - s.gap - 1 - j by omega]
  rw [e, Int.mul_add]
  omega

/-- What holds at each step. -/
structure Bm (p : Nat) (row : List Nat) (s : FS) (n : Nat) : Prop where
  ok : FOk s n
  now : ∀ i, i < n → s.now.length ≤ i → missN p s.now row i = 0
  was : s.was % p ≠ 0
  old : s.gap ≤ n → (∀ i, i < n - s.gap → s.old.length ≤ i → missN p s.old row i = 0) ∧ missN p s.old row (n - s.gap) = s.was

theorem Bm.step {p : Nat} (hp : 0 < p) (iv : Nat → Nat) (hiv : ∀ x, x % p ≠ 0 → x * iv x % p = 1 % p) {row : List Nat} {s : FS} {n : Nat} (h : Bm p row s n) : Bm p row (stepN iv p row s n) (n + 1) := by
  have hok := stepN_ok iv p row s n h.ok
  obtain ⟨o1, o2⟩ := h.ok
  unfold stepN at hok ⊢
  split
  · rename_i h0
    rw [if_pos h0] at hok
    refine ⟨hok, fun i hi hl => ?_, h.was, fun hg => ?_⟩
    · rcases Nat.lt_or_ge i n with h1 | h1
      · exact h.now i h1 hl
      · rw [show i = n by omega]; exact h0
    · dsimp only at hg ⊢
      have e : n + 1 - (s.gap + 1) = n - s.gap := by omega
      rw [e]
      exact h.old (by omega)
  · rename_i h0
    rw [if_neg h0] at hok
    have hd := missN_lt hp s.now row n
    obtain ⟨d, ed⟩ : ∃ d, missN p s.now row n = d := ⟨_, rfl⟩
    rw [ed] at h0 hok hd ⊢
    -- the new rule holds up to here
    have key : ∀ i, i < n + 1 → max (s.gap + s.old.length) s.now.length ≤ i → missN p (nextN iv p d s) row i = 0 := by
      intro i hi hl
      rw [missN_zero hp]
      have h1 := nextN_ms hp iv d s o2 row i (by omega)
      obtain ⟨ho1, ho2⟩ := h.old (by omega)
      refine h1.trans ?_
      rcases Nat.lt_or_ge i n with hin | hin
      · have a1 := (missN_zero hp _ _ _).mp (h.now i hin (by omega))
        have a2 := (missN_zero hp _ _ _).mp (ho1 (i - s.gap) (by omega) (by omega))
        have := a1.sub ((cg.refl ((d * iv s.was % p : Nat) : Int)).mul a2)
        rw [Int.mul_zero] at this
        exact this
      · obtain rfl : i = n := by omega
        have a1 := (missN_cg (p := p) s.now row i).symm
        rw [ed] at a1
        have a2 := (missN_cg (p := p) s.old row (i - s.gap)).symm
        rw [ho2] at a2
        have a3 : cg p ((d * iv s.was % p : Nat) * (s.was : Nat)) (d : Int) := by
          refine ((cg.mod _).mul (cg.refl _)).trans ?_
          have e1 : (((d * iv s.was : Nat) : Int) * (s.was : Nat)) = ((d * (s.was * iv s.was) : Nat) : Int) := by rw [← Int.natCast_mul, Nat.mul_assoc, Nat.mul_comm (iv s.was)]
          rw [e1, Int.natCast_mul]
          have a4 : cg p ((s.was * iv s.was : Nat) : Int) 1 := by
            refine (cg.mod _).symm.trans ?_
            rw [hiv _ h.was]
            exact cg.mod 1
          have a5 := (cg.refl (d : Int)).mul a4
          rwa [Int.mul_one] at a5
        have := a1.sub (((cg.refl ((d * iv s.was % p : Nat) : Int)).mul a2).trans a3)
        refine this.trans (cg.of_eq (by omega))
    have hln : (nextN iv p d s).length = max (s.gap + s.old.length) s.now.length := length_nextN iv p d s
    split
    · rename_i h1
      rw [if_pos h1] at hok
      refine ⟨hok, fun i hi hl => key i hi (by dsimp only at hl; omega), h.was, fun hg => ?_⟩
      dsimp only at hg ⊢
      have e : n + 1 - (s.gap + 1) = n - s.gap := by omega
      rw [e]
      exact h.old (by omega)
    · rename_i h1
      rw [if_neg h1] at hok
      refine ⟨hok, fun i hi hl => ?_, ?_, fun _ => ⟨fun i hi hl => h.now i (by dsimp only at hi; omega) hl, ed⟩⟩
      · dsimp only at hl ⊢
        rw [missN_zero hp, ms_grownN, ← missN_zero hp]
        rw [length_grownN] at hl
        exact key i hi (by omega)
      · dsimp only
        rw [Nat.mod_eq_of_lt hd]
        exact h0

theorem Bm.all {p : Nat} (hp : 1 < p) (iv : Nat → Nat) (hiv : ∀ x, x % p ≠ 0 → x * iv x % p = 1 % p) (row : List Nat) : ∀ n, Bm p row (findN iv p row n) n
  | 0 => ⟨⟨rfl, Nat.le_refl 1⟩, fun i hi => by omega, by show 1 % p % p ≠ 0; rw [Nat.mod_mod, Nat.mod_eq_of_lt hp]; omega, fun h => by have h : 1 ≤ 0 := h; omega⟩
  | n + 1 => (Bm.all hp iv hiv row n).step (by omega) iv hiv

theorem find_holds {p : Nat} (hp : 1 < p) (iv : Nat → Nat) (hiv : ∀ x, x % p ≠ 0 → x * iv x % p = 1 % p) (row : List Nat) : holdsB p (findN iv p row row.length).now row = true :=
  decide_eq_true fun i hi hl => (Bm.all hp iv hiv row row.length).now i hi hl

theorem find_len (iv : Nat → Nat) (p : Nat) (row : List Nat) : (findN iv p row row.length).now.length ≤ row.length := by
  have := findN_ok iv p row row.length
  obtain ⟨h1, h2⟩ := this
  omega

/-- A row of 0 has the rule of no numbers, and no other row has it. -/
theorem find_none {p : Nat} (hp : 1 < p) (iv : Nat → Nat) (hiv : ∀ x, x % p ≠ 0 → x * iv x % p = 1 % p) (row : List Nat) : (findN iv p row row.length).now = [] ↔ ∀ i, i < row.length → row.getD i 0 % p = 0 := by
  constructor
  · intro h i hi
    have := (Bm.all hp iv hiv row row.length).now i hi (by rw [h]; exact Nat.zero_le _)
    rw [h] at this
    exact this
  · intro h
    have key : ∀ n, n ≤ row.length → findN iv p row n = ⟨[], [], 1 % p, n + 1⟩ := by
      intro n
      induction n with
      | zero => intro _; rfl
      | succ n ih =>
        intro hn
        show stepN iv p row (findN iv p row n) n = _
        rw [ih (by omega)]
        unfold stepN
        rw [if_pos]
        exact h n (by omega)
    rw [key _ (Nat.le_refl _)]

end Vinc.Num

/- Powers modulo a rule's polynomial tell the numbers of a row. -/
set_option linter.unusedSimpArgs false
set_option linter.unusedVariables false
namespace Vinc.Num

/-- What a polynomial makes of a row, from a place on. -/
def ph (s : Nat → Int) (a : List Nat) (k : Nat) : Int := S (fun j => (a.getD j 0 : Nat) * s (k + j)) a.length

theorem ph_set (s : Nat → Int) (a : List Nat) (k i v : Nat) (hi : i < a.length) : ph s (a.set i v) k = ph s a k + ((v : Int) - (a.getD i 0 : Nat)) * s (k + i) := by
  unfold ph
  rw [List.length_set, S_upd (k := i) (g := fun j => ((a.getD j 0 : Nat) : Int) * s (k + j)) hi]
  · rw [getD_set _ _ _ _ hi, if_pos rfl, Int.sub_mul]
  · intro j _ hj
    rw [getD_set _ _ _ _ hi, if_neg hj]

/-- Numbers with 0 behind them. -/
theorem ph_more (s : Nat → Int) (a : List Nat) (k n : Nat) (hn : a.length ≤ n) : ph s a k = S (fun j => (a.getD j 0 : Nat) * s (k + j)) n := by
  unfold ph
  rw [S_more hn]
  intro j hj _
  rw [List.getD_eq_getElem?_getD, List.getElem?_eq_none hj]
  simp

theorem ph_rep (s : Nat → Int) (n k : Nat) : ph s (List.replicate n 0) k = 0 := by
  unfold ph
  exact S_zero fun i _ => by rw [getD_rep]; simp

theorem trimL_zero (a : List Nat) : ∀ n j, trimL a n ≤ j → j < n → a.getD j 0 = 0
  | 0, _, _, h => by omega
  | n + 1, j, h1, h2 => by
    unfold trimL at h1
    split at h1
    · rename_i h0
      by_cases e : j = n
      · rw [e]; exact h0
      · exact trimL_zero a n j h1 (by omega)
    · omega

theorem ph_trim (s : Nat → Int) (a : List Nat) (k : Nat) : ph s (trimN a) k = ph s a k := by
  have h1 := trimL_le a a.length
  have hl : (trimN a).length = trimL a a.length := by unfold trimN; rw [List.length_take]; omega
  unfold ph
  rw [hl, S_more (f := fun j => (a.getD j 0 : Nat) * s (k + j)) h1]
  · refine S_congr fun j hj => ?_
    unfold trimN
    rw [List.getD_eq_getElem?_getD, List.getD_eq_getElem?_getD, List.getElem?_take_of_lt hj]
  · intro j hj hj2
    rw [trimL_zero a a.length j hj hj2]
    simp

theorem ph_mod {p : Nat} (s : Nat → Int) (a : List Nat) (k : Nat) : cg p (ph s (a.map (· % p)) k) (ph s a k) := by
  unfold ph
  rw [List.length_map]
  refine S_cg fun j hj => ?_
  have e : (a.map (· % p)).getD j 0 = a.getD j 0 % p := by simp [List.getD_eq_getElem?_getD, hj]
  rw [e]
  exact (cg.mod _).mul (cg.refl _)

theorem ph_norm {p : Nat} (s : Nat → Int) (a : List Nat) (k : Nat) : cg p (ph s (normN p a) k) (ph s a k) := by
  unfold normN
  rw [ph_trim]
  exact ph_mod s a k

theorem ph_oneI {p : Nat} (s : Nat → Int) (x : Nat) (b : List Nat) (i : Nat) (out : List Nat) (k : Nat) (hl : i + b.length ≤ out.length) : ∀ n, n ≤ b.length →
    cg p (ph s (oneI p x b i out n) k) (ph s out k + x * S (fun j => (b.getD j 0 : Nat) * s (k + i + j)) n)
  | 0, _ => by
    show cg p (ph s out k) (ph s out k + x * 0)
    rw [Int.mul_zero, Int.add_zero]
    exact cg.refl _
  | n + 1, hn => by
    have ih := ph_oneI (p := p) s x b i out k hl n (by omega)
    have hlen := length_oneI p x b i out n
    unfold oneI
    generalize oneI p x b i out n = o at ih hlen ⊢
    rw [ph_set _ _ _ _ _ (by omega)]
    have h1 : cg p (((o.getD (i + n) 0 + x * b.getD n 0 % p) % p : Nat) - ((o.getD (i + n) 0 : Nat) : Int)) ((x : Int) * (b.getD n 0 : Nat)) := by
      refine ((cg.mod _).sub (cg.refl _)).trans ?_
      rw [Int.natCast_add]
      have h2 := cg.mod (p := p) (x * b.getD n 0)
      rw [Int.natCast_mul] at h2
      have e : ((o.getD (i + n) 0 : Nat) : Int) + ((x * b.getD n 0 % p : Nat) : Int) - ((o.getD (i + n) 0 : Nat) : Int) = ((x * b.getD n 0 % p : Nat) : Int) := by omega
      rw [e]
      exact h2
    refine (ih.add (h1.mul (cg.refl (s (k + (i + n)))))).trans (cg.of_eq ?_)
    show _ = _ + (x : Int) * (S _ n + (b.getD n 0 : Nat) * s (k + i + n))
    rw [Int.mul_add, Int.mul_assoc, show k + (i + n) = k + i + n by omega]
    omega

theorem ph_oneO {p : Nat} (s : Nat → Int) (a b : List Nat) (k : Nat) (hb : 0 < b.length) : ∀ n, n ≤ a.length → cg p (ph s (oneO p a b n) k) (S (fun i => (a.getD i 0 : Nat) * ph s b (k + i)) n)
  | 0, _ => by
    show cg p (ph s (List.replicate (a.length + b.length - 1) 0) k) 0
    rw [ph_rep]
    exact cg.refl _
  | n + 1, hn => by
    have ih := ph_oneO (p := p) s a b k hb n (by omega)
    have h := ph_oneI (p := p) s (a.getD n 0) b n (oneO p a b n) k (by rw [length_oneO]; omega) b.length (Nat.le_refl _)
    exact h.trans (ih.add (cg.refl _))

theorem ph_times {p : Nat} (s : Nat → Int) (a b : List Nat) (k : Nat) : cg p (ph s (timesN p a b) k) (S (fun i => (a.getD i 0 : Nat) * ph s b (k + i)) a.length) := by
  unfold timesN
  rw [ph_trim]
  unfold oneN
  split
  · rename_i h
    have e : S (fun i => ((a.getD i 0 : Nat) : Int) * ph s b (k + i)) a.length = 0 := by
      rcases h with h | h
      · rw [h]; rfl
      · refine S_zero fun i _ => ?_
        have : ph s b (k + i) = 0 := by unfold ph; rw [h]; rfl
        rw [this, Int.mul_zero]
    rw [e]
    exact cg.refl _
  · rename_i h
    exact ph_oneO s a b k (by omega) a.length (Nat.le_refl _)

/-- A polynomial that is so many places on. -/
def Sh (p : Nat) (s : Nat → Int) (a : List Nat) (m : Nat) : Prop := ∀ k, cg p (ph s a k) (s (k + m))

theorem Sh.times {p : Nat} {s : Nat → Int} {a b : List Nat} {m n : Nat} (ha : Sh p s a m) (hb : Sh p s b n) : Sh p s (timesN p a b) (m + n) := fun k => by
  refine (ph_times s a b k).trans ?_
  have h1 : cg p (S (fun i => (a.getD i 0 : Nat) * ph s b (k + i)) a.length) (S (fun i => (a.getD i 0 : Nat) * s (k + n + i)) a.length) := S_cg fun i _ => (cg.refl _).mul (by
    have := hb (k + i)
    rw [show k + i + n = k + n + i by omega] at this
    exact this)
  have h2 := ha (k + n)
  rw [show k + n + m = k + (m + n) by omega] at h2
  exact h1.trans h2

theorem ph_divI {p : Nat} (hp : 0 < p) (s : Nat → Int) (q : Nat) (b : List Nat) (i : Nat) (left : List Nat) (k : Nat) (hl : i + b.length ≤ left.length) : ∀ n, n ≤ b.length →
    cg p (ph s (divI p q b i left n) k) (ph s left k - q * S (fun j => (b.getD j 0 : Nat) * s (k + i + j)) n)
  | 0, _ => by
    show cg p (ph s left k) (ph s left k - q * 0)
    rw [Int.mul_zero, Int.sub_zero]
    exact cg.refl _
  | n + 1, hn => by
    have ih := ph_divI hp s q b i left k hl n (by omega)
    have hlen := length_divI p q b i left n
    unfold divI
    generalize divI p q b i left n = o at ih hlen ⊢
    rw [ph_set _ _ _ _ _ (by omega)]
    have h1 : cg p ((sb (o.getD (i + n) 0) (q * b.getD n 0 % p) p : Nat) - ((o.getD (i + n) 0 : Nat) : Int)) (-((q : Int) * (b.getD n 0 : Nat))) := by
      refine ((cg.sb hp _ _).sub (cg.refl _)).trans ?_
      have h2 := (cg.mod (p := p) (q * b.getD n 0)).neg
      rw [Int.natCast_mul] at h2
      have e : ((o.getD (i + n) 0 : Nat) : Int) - ((q * b.getD n 0 % p : Nat) : Int) - ((o.getD (i + n) 0 : Nat) : Int) = -((q * b.getD n 0 % p : Nat) : Int) := by omega
      rw [e]
      exact h2
    refine (ih.add (h1.mul (cg.refl (s (k + (i + n)))))).trans (cg.of_eq ?_)
    show _ = _ - (q : Int) * (S _ n + (b.getD n 0 : Nat) * s (k + i + n))
    rw [Int.mul_add, Int.neg_mul, Int.mul_assoc, show k + (i + n) = k + i + n by omega]
    omega

theorem ph_divO {p : Nat} (hp : 0 < p) (s : Nat → Int) (inv : Nat) (b : List Nat) (hb : 0 < b.length) (hs : ∀ k, cg p (ph s b k) 0) (k : Nat) : ∀ (n : Nat) (q left : List Nat), n + (b.length - 1) ≤ left.length → cg p (ph s (divO p inv b n (q, left)).2 k) (ph s left k)
  | 0, _, _, _ => cg.refl _
  | n + 1, q, left, hl => by
    show cg p (ph s (divO p inv b n (q.set n _, divI p (left.getD (n + (b.length - 1)) 0 * inv % p) b n left b.length)).2 k) _
    generalize left.getD (n + (b.length - 1)) 0 * inv % p = qi
    have h1 := ph_divI hp s qi b n left k (by omega) b.length (Nat.le_refl _)
    have h2 : cg p (ph s left k - qi * S (fun j => ((b.getD j 0 : Nat) : Int) * s (k + n + j)) b.length) (ph s left k) := by
      have := (cg.refl (ph s left k)).sub ((cg.refl (qi : Int)).mul (hs (k + n)))
      rw [Int.mul_zero, Int.sub_zero] at this
      exact this
    exact (ph_divO hp s inv b hb hs k n _ _ (by rw [length_divI]; omega)).trans (h1.trans h2)

theorem ph_rem {p : Nat} (hp : 0 < p) (s : Nat → Int) (iv : Nat → Nat) (a b : List Nat) (hb : 0 < b.length) (hs : ∀ k, cg p (ph s b k) 0) (k : Nat) : cg p (ph s (remN iv p a b) k) (ph s a k) := by
  unfold remN divN
  split
  · exact cg.refl _
  · show cg p (ph s (trimN _) k) _
    rw [ph_trim]
    exact ph_divO hp s _ b hb hs k _ _ _ (by omega)

theorem Sh.rem {p : Nat} (hp : 0 < p) {s : Nat → Int} (iv : Nat → Nat) {a b : List Nat} {m : Nat} (hb : 0 < b.length) (hs : ∀ k, cg p (ph s b k) 0) (ha : Sh p s a m) : Sh p s (remN iv p a b) m :=
  fun k => (ph_rem hp s iv a b hb hs k).trans (ha k)

theorem Sh.pow {p : Nat} (hp : 0 < p) {s : Nat → Int} (iv : Nat → Nat) {b : List Nat} (hb : 0 < b.length) (hs : ∀ k, cg p (ph s b k) 0) : ∀ (f n : Nat) (out a : List Nat) (u v : Nat), n < 2 ^ f → Sh p s out u → Sh p s a v → Sh p s (powF iv p b f n out a) (u + v * n)
  | 0, n, out, a, u, v, hn, ho, ha => by
    obtain rfl : n = 0 := by simpa using hn
    rw [Nat.mul_zero, Nat.add_zero]
    exact ho
  | f + 1, n, out, a, u, v, hn, ho, ha => by
    unfold powF
    split
    · rename_i h
      rw [h, Nat.mul_zero, Nat.add_zero]
      exact ho
    · have hn2 : n / 2 < 2 ^ f := by rw [Nat.pow_succ] at hn; omega
      have ha2 : Sh p s (remN iv p (timesN p a a) b) (v + v) := (ha.times ha).rem hp iv hb hs
      have hd := Nat.div_add_mod n 2
      by_cases h1 : n % 2 = 1
      · rw [if_pos h1]
        have := Sh.pow hp iv hb hs f (n / 2) _ _ (u + v) (v + v) hn2 ((ho.times ha).rem hp iv hb hs) ha2
        have e : u + v + (v + v) * (n / 2) = u + v * n := by
          have : v * n = v * (2 * (n / 2) + n % 2) := by rw [hd]
          rw [this, h1, Nat.mul_add, Nat.add_mul, Nat.mul_one, ← Nat.mul_assoc, Nat.mul_comm v 2, Nat.two_mul, Nat.add_mul]; omega
        rwa [e] at this
      · rw [if_neg h1]
        have := Sh.pow hp iv hb hs f (n / 2) _ _ u (v + v) hn2 ho ha2
        have e : u + (v + v) * (n / 2) = u + v * n := by
          have : v * n = v * (2 * (n / 2) + n % 2) := by rw [hd]
          rw [this, show n % 2 = 0 by omega, Nat.add_zero, ← Nat.mul_assoc, Nat.mul_comm v 2, Nat.two_mul]
        rwa [e] at this

/-! ### what is left is short -/

theorem trimL_le_of (a : List Nat) (m : Nat) : ∀ n, m ≤ n → (∀ j, m ≤ j → j < n → a.getD j 0 = 0) → trimL a n ≤ m
  | 0, _, _ => Nat.zero_le m
  | n + 1, h, hz => by
    by_cases e : m = n + 1
    · rw [e]; exact trimL_le a (n + 1)
    · unfold trimL
      rw [if_pos (hz n (by omega) (by omega))]
      exact trimL_le_of a m n (by omega) fun j h1 h2 => hz j h1 (by omega)

theorem divI_at (p q : Nat) (b : List Nat) (i : Nat) (left : List Nat) : ∀ k, i + k ≤ left.length → ∀ j, (divI p q b i left k).getD j 0 = if i ≤ j ∧ j < i + k then sb (left.getD j 0) (q * b.getD (j - i) 0 % p) p else left.getD j 0
  | 0, _, j => by rw [if_neg (by omega)]; rfl
  | k + 1, h, j => by
    have ih := divI_at p q b i left k (by omega)
    have hl := length_divI p q b i left k
    unfold divI
    rw [getD_set _ _ _ _ (by omega)]
    by_cases e : j = i + k
    · rw [if_pos e, if_pos (by omega), ih, if_neg (by omega), e, show i + k - i = k by omega]
    · rw [if_neg e, ih]
      by_cases h1 : i ≤ j ∧ j < i + k
      · rw [if_pos h1, if_pos (by omega)]
      · rw [if_neg h1, if_neg (by omega)]

theorem sb_self {p : Nat} (hp : 0 < p) (x : Nat) : sb x (x * 1 % p * 1 % p) p = 0 := by
  unfold sb
  have := Nat.mod_lt x hp
  rw [Nat.mul_one, Nat.mul_one, Nat.mod_mod, Nat.mod_mod, show x % p + p - x % p = p by omega, Nat.mod_self]

theorem divO_zero {p : Nat} (hp : 0 < p) (b : List Nat) (hb : 0 < b.length) (h1 : b.getD (b.length - 1) 0 = 1) : ∀ (n : Nat) (q left : List Nat), n + (b.length - 1) ≤ left.length → (∀ j, n + (b.length - 1) ≤ j → j < left.length → left.getD j 0 = 0) →
    ∀ j, b.length - 1 ≤ j → j < left.length → (divO p 1 b n (q, left)).2.getD j 0 = 0
  | 0, q, left, _, hz, j, h2, h3 => hz j (by omega) h3
  | n + 1, q, left, hl, hz, j, h2, h3 => by
    refine divO_zero hp b hb h1 n _ _ (by rw [length_divI]; omega) ?_ j h2 (by rw [length_divI]; exact h3)
    intro i hi hil
    rw [length_divI] at hil
    rw [divI_at _ _ _ _ _ _ (by omega)]
    by_cases e : i = n + (b.length - 1)
    · rw [if_pos (by omega), e, show n + (b.length - 1) - n = b.length - 1 by omega, h1]
      exact sb_self hp _
    · rw [if_neg (by omega)]
      exact hz i (by omega) hil

theorem remN_short {p : Nat} (hp : 0 < p) (iv : Nat → Nat) (hiv : iv 1 = 1) (a b : List Nat) (hb : 0 < b.length) (h1 : b.getD (b.length - 1) 0 = 1) : (remN iv p a b).length ≤ b.length - 1 := by
  unfold remN divN
  split
  · show a.length ≤ _
    omega
  · rename_i h
    show (trimN _).length ≤ _
    have hlen := (length_divO p (iv (b.getD (b.length - 1) 0)) b (a.length - (b.length - 1)) (List.replicate (a.length - (b.length - 1)) 0, a)).2
    have hlen : _ = a.length := hlen
    rw [h1, hiv] at hlen ⊢
    unfold trimN
    rw [List.length_take, hlen]
    have := trimL_le_of (divO p 1 b (a.length - (b.length - 1)) (List.replicate (a.length - (b.length - 1)) 0, a)).2 (b.length - 1) a.length (by omega)
      (fun j h2 h3 => divO_zero hp b hb h1 _ _ a (by omega) (fun j h4 h5 => by omega) j h2 h3)
    omega

theorem powOk_all {iv : Nat → Nat} {p : Nat} {b : List Nat} (hr : ∀ a, (remN iv p a b).length ≤ 16) : ∀ (f n : Nat) (out a : List Nat), n < 2 ^ f → out.length ≤ 16 → a.length ≤ 16 → powOk iv p b f n out a
  | 0, n, _, _, hn, _, _ => by
    show n = 0
    simpa using hn
  | f + 1, n, out, a, hn, ho, ha => by
    refine .inr ⟨ho, ha, powOk_all hr f _ _ _ (by rw [Nat.pow_succ] at hn; omega) ?_ (hr _)⟩
    split
    · exact hr _
    · exact ho

theorem powF_short {iv : Nat → Nat} {p : Nat} {b : List Nat} {m : Nat} (hr : ∀ a, (remN iv p a b).length ≤ m) : ∀ (f n : Nat) (out a : List Nat), out.length ≤ m → (powF iv p b f n out a).length ≤ m
  | 0, _, _, _, h => h
  | f + 1, n, out, a, h => by
    unfold powF
    split
    · exact h
    · refine powF_short hr f _ _ _ ?_
      split
      · exact hr _
      · exact h

theorem map_mod_id {p : Nat} (a : List Nat) (h : ∀ x, x ∈ a → x < p) : a.map (· % p) = a := by
  induction a with
  | nil => rfl
  | cons x a ih =>
    rw [List.map_cons, ih fun y hy => h y (by simp [hy]), Nat.mod_eq_of_lt (h x (by simp))]

theorem normN_char {p : Nat} (hp : 1 < p) (r : List Nat) : normN p (charN p r) = charN p r := by
  have h1 : (charN p r).map (· % p) = charN p r := map_mod_id _ fun x hx => by
    unfold charN at hx
    rcases List.mem_append.mp hx with hx | hx
    · obtain ⟨y, _, rfl⟩ := List.mem_map.mp hx
      exact Nat.mod_lt _ (by omega)
    · have := List.mem_singleton.mp hx
      omega
  unfold normN
  rw [h1]
  unfold trimN
  rw [length_charN]
  have : trimL (charN p r) (r.length + 1) = r.length + 1 := if_neg (by rw [charN_last]; omega)
  rw [this, ← length_charN p r, List.take_length]

/-! ### the row without an end -/

def sq (p : Nat) (r ms : List Nat) (i : Nat) : Nat := (refMore p r ms (i + 1)).getD i 0

theorem refMore_pre (p : Nat) (r ms : List Nat) (n j : Nat) (hj : j < ms.length + n) : ∀ k, (refMore p r ms (n + k)).getD j 0 = (refMore p r ms n).getD j 0
  | 0 => rfl
  | k + 1 => by
    have ih := refMore_pre p r ms n j hj k
    have hl := length_refMore p r ms (n + k)
    show (refMore p r ms (n + k) ++ [_]).getD j 0 = _
    rw [List.getD_eq_getElem?_getD, List.getElem?_append_left (by omega), ← List.getD_eq_getElem?_getD]
    exact ih

theorem refMore_sq (p : Nat) (r ms : List Nat) (n j : Nat) (hj : j < ms.length + n) : (refMore p r ms n).getD j 0 = sq p r ms j := by
  unfold sq
  rcases Nat.le_total n (j + 1) with h | h
  · have := refMore_pre p r ms n j hj (j + 1 - n)
    rw [show n + (j + 1 - n) = j + 1 by omega] at this
    exact this.symm
  · have := refMore_pre p r ms (j + 1) j (by omega) (n - (j + 1))
    rw [show j + 1 + (n - (j + 1)) = n by omega] at this
    exact this

theorem sq_ms (p : Nat) (r ms : List Nat) (j : Nat) (hj : j < ms.length) : sq p r ms j = ms.getD j 0 := (refMore_sq p r ms 0 j (by omega)).symm

theorem sq_next (p : Nat) (r ms : List Nat) (k : Nat) : sq p r ms (ms.length + k) = refNext p r (refMore p r ms k) := by
  have hl := length_refMore p r ms k
  rw [← refMore_sq p r ms (k + 1) (ms.length + k) (by omega)]
  show (refMore p r ms k ++ [refNext p r (refMore p r ms k)]).getD (ms.length + k) 0 = _
  rw [← hl, List.getD_eq_getElem?_getD]
  simp

theorem nextF_cg {p : Nat} (r row : List Nat) : ∀ n, cg p (nextF p r row n : Nat) (S (fun j => (r.getD j 0 : Nat) * (row.getD (row.length - 1 - j) 0 : Nat)) n)
  | 0 => cg.refl _
  | n + 1 => by
    have ih := nextF_cg (p := p) r row n
    show cg p (((nextF p r row n + r.getD n 0 * row.getD (row.length - 1 - n) 0 % p) % p : Nat) : Int) _
    refine (cg.mod _).trans ?_
    rw [Int.natCast_add]
    refine (ih.add (cg.mod (p := p) (r.getD n 0 * row.getD (row.length - 1 - n) 0))).trans (cg.of_eq ?_)
    rw [Int.natCast_mul]
    rfl

/-- The rule's polynomial makes 0 of the row. -/
theorem ph_char {p : Nat} (hp : 0 < p) (r ms : List Nat) (hl : ms.length = r.length) (k : Nat) : cg p (ph (fun i => (sq p r ms i : Nat)) (charN p r) k) 0 := by
  unfold ph
  rw [length_charN]
  show cg p (S (fun j => ((charN p r).getD j 0 : Nat) * ((sq p r ms (k + j) : Nat) : Int)) r.length + ((charN p r).getD r.length 0 : Nat) * ((sq p r ms (k + r.length) : Nat) : Int)) 0
  rw [charN_last]
  have hn : sq p r ms (k + r.length) = refNext p r (refMore p r ms k) := by rw [Nat.add_comm, ← hl]; exact sq_next p r ms k
  have hyl := length_refMore p r ms k
  have h1 : cg p ((refNext p r (refMore p r ms k) : Nat) : Int) (0 - S (fun j => ((r.getD j 0 : Nat) : Int) * ((sq p r ms (k + r.length - 1 - j) : Nat) : Int)) r.length) := by
    refine (cg.sb hp 0 _).trans ((cg.refl (0 : Int)).sub ((nextF_cg r (refMore p r ms k) r.length).trans (cg.of_eq (S_congr fun j hj => ?_))))
    rw [refMore_sq p r ms k _ (by omega), hyl, hl, Nat.add_comm r.length k]
  have h2 : cg p (S (fun j => ((charN p r).getD j 0 : Nat) * ((sq p r ms (k + j) : Nat) : Int)) r.length) (S (fun j => ((r.getD j 0 : Nat) : Int) * ((sq p r ms (k + r.length - 1 - j) : Nat) : Int)) r.length) := by
    rw [← S_rev (fun j => ((r.getD j 0 : Nat) : Int) * ((sq p r ms (k + r.length - 1 - j) : Nat) : Int))]
    refine S_cg fun j hj => ?_
    rw [charN_at p r j hj, show k + r.length - 1 - (r.length - 1 - j) = k + j by omega]
    exact (cg.mod _).mul (cg.refl _)
  rw [hn]
  have h3 : ((1 : Nat) : Int) * ((refNext p r (refMore p r ms k) : Nat) : Int) = ((refNext p r (refMore p r ms k) : Nat) : Int) := Int.one_mul _
  rw [h3]
  exact (h2.add h1).trans (cg.of_eq (by omega))

theorem farF_cg {p : Nat} (x row : List Nat) : ∀ n, cg p (farF p x row n : Nat) (S (fun j => (x.getD j 0 : Nat) * (row.getD j 0 : Nat)) n)
  | 0 => cg.refl _
  | n + 1 => by
    have ih := farF_cg (p := p) x row n
    show cg p (((farF p x row n + x.getD n 0 * row.getD n 0 % p) % p : Nat) : Int) _
    refine (cg.mod _).trans ?_
    rw [Int.natCast_add]
    refine (ih.add (cg.mod (p := p) (x.getD n 0 * row.getD n 0))).trans (cg.of_eq ?_)
    rw [Int.natCast_mul]
    rfl

theorem farF_lt {p : Nat} (hp : 0 < p) (x row : List Nat) : ∀ n, farF p x row n < p
  | 0 => hp
  | _ + 1 => Nat.mod_lt _ hp

theorem sq_lt {p : Nat} (hp : 0 < p) (r ms : List Nat) (hm : ∀ j, ms.getD j 0 < p) (i : Nat) : sq p r ms i < p := by
  rcases Nat.lt_or_ge i ms.length with h | h
  · rw [sq_ms p r ms i h]; exact hm i
  · have := sq_next p r ms (i - ms.length)
    rw [show ms.length + (i - ms.length) = i by omega] at this
    rw [this]
    exact Nat.mod_lt _ hp

theorem getD_map_mod {p : Nat} (hp : 0 < p) (xs : List Nat) (j : Nat) : (xs.map (· % p)).getD j 0 = xs.getD j 0 % p := by
  rw [List.getD_eq_getElem?_getD, List.getD_eq_getElem?_getD, List.getElem?_map]
  cases xs[j]? with
  | none => exact (Nat.mod_eq_of_lt hp).symm
  | some v => rfl

/-- All of it: the number that Far answers is the row's. -/
theorem far_all {p : Nat} (hp : 1 < p) (iv : Nat → Nat) (hiv : iv 1 = 1) (r row : List Nat) (n : Nat) (hn : n < 18446744073709551616) (hr : r.length ≤ 16) (hl : r.length ≤ row.length) :
    farOk iv p r n ∧ (farX iv p r n).length ≤ r.length ∧ farF p (farX iv p r n) row (farX iv p r n).length = sq p r ((row.take r.length).map (· % p)) n := by
  have hp0 : 0 < p := by omega
  obtain ⟨ms, hms⟩ : ∃ ms, (row.take r.length).map (· % p) = ms := ⟨_, rfl⟩
  have hml : ms.length = r.length := by rw [← hms, List.length_map, List.length_take]; omega
  have hmg : ∀ j, ms.getD j 0 < p := fun j => by rw [← hms, getD_map_mod hp0]; exact Nat.mod_lt _ hp0
  rw [hms]
  have hcl := length_charN p r
  have hc0 : 0 < (charN p r).length := by omega
  have hc1 : (charN p r).getD ((charN p r).length - 1) 0 = 1 := by rw [hcl]; exact charN_last p r
  have hrs : ∀ a, (remN iv p a (charN p r)).length ≤ r.length := fun a => by
    have := remN_short hp0 iv hiv a (charN p r) hc0 hc1
    omega
  have hs := ph_char hp0 r ms hml
  have hx : (farX iv p r n).length ≤ r.length := by
    unfold farX
    rw [normN_char hp]
    exact powF_short hrs _ _ _ _ (hrs _)
  refine ⟨?_, hx, ?_⟩
  · unfold farOk
    rw [normN_char hp]
    exact powOk_all (fun a => by have := hrs a; omega) 64 n _ _ hn (by have := hrs [1]; omega) (by have := hrs (normN p [0, 1]); omega)
  · have h0 : Sh p (fun i => (sq p r ms i : Nat)) [1] 0 := fun k => cg.of_eq (by
      show (0 : Int) + ((1 : Nat) : Int) * ((sq p r ms (k + 0) : Nat) : Int) = _
      rw [Int.zero_add]; exact Int.one_mul _)
    have h1 : Sh p (fun i => (sq p r ms i : Nat)) (normN p [0, 1]) 1 := fun k => (ph_norm _ _ k).trans (cg.of_eq (by
      show (0 : Int) + ((0 : Nat) : Int) * ((sq p r ms (k + 0) : Nat) : Int) + ((1 : Nat) : Int) * ((sq p r ms (k + 1) : Nat) : Int) = ((sq p r ms (k + 1) : Nat) : Int)
      have e0 : ((0 : Nat) : Int) * ((sq p r ms (k + 0) : Nat) : Int) = 0 := Int.zero_mul _
      have e1 : ((1 : Nat) : Int) * ((sq p r ms (k + 1) : Nat) : Int) = ((sq p r ms (k + 1) : Nat) : Int) := Int.one_mul _
      rw [e0, e1]; omega))
    have h2 : Sh p (fun i => (sq p r ms i : Nat)) (farX iv p r n) (0 + 1 * n) := by
      unfold farX
      rw [normN_char hp]
      exact Sh.pow hp0 iv hc0 hs 64 n _ _ 0 1 hn (h0.rem hp0 iv hc0 hs) (h1.rem hp0 iv hc0 hs)
    have h3 := h2 0
    rw [show 0 + (0 + 1 * n) = n by omega] at h3
    refine cg.eq_of_lt ?_ (farF_lt hp0 _ _ _) (sq_lt hp0 r ms hmg n)
    refine (farF_cg _ _ _).trans (cg.trans ?_ h3)
    unfold ph
    refine S_cg fun j hj => (cg.refl _).mul ?_
    show cg p _ ((sq p r ms (0 + j) : Nat) : Int)
    rw [show 0 + j = j by omega, sq_ms p r ms j (by omega), ← hms, getD_map_mod hp0]
    have e : (row.take r.length).getD j 0 = row.getD j 0 := by
      rw [List.getD_eq_getElem?_getD, List.getD_eq_getElem?_getD, List.getElem?_take_of_lt (by omega)]
    rw [e]
    exact (cg.mod _).symm

end Vinc.Num

/- The rule by which a row was made, or a shorter one, is found of twice as many numbers. -/
set_option linter.unusedSimpArgs false
set_option linter.unusedVariables false
namespace Vinc.Num

/-- Two rules of a row: if one misses nothing up to a place, and the other one nothing before it, and both are short, the other one misses nothing there. -/
theorem massey {p : Nat} (C D row : List Nat) (n : Nat) (hl : C.length + D.length ≤ n) (hC : ∀ i, i < n → C.length ≤ i → cg p (ms C row i) 0) (hD : ∀ i, i < n + 1 → D.length ≤ i → cg p (ms D row i) 0) : cg p (ms C row n) 0 := by
  have hs : ∀ i, i < n + 1 → D.length ≤ i → cg p ((row.getD i 0 : Nat) : Int) (-S (fun k => ((D.getD k 0 : Nat) : Int) * (row.getD (i - 1 - k) 0 : Nat)) D.length) := fun i h1 h2 => by
    have h := (hD i h1 h2).sub (cg.refl (S (fun k => ((D.getD k 0 : Nat) : Int) * (row.getD (i - 1 - k) 0 : Nat)) D.length))
    refine (cg.of_eq ?_).trans (h.trans (cg.of_eq (by omega)))
    unfold ms
    omega
  have h1 : cg p (ms C row n) (-S (fun k => ((D.getD k 0 : Nat) : Int) * (row.getD (n - 1 - k) 0 : Nat)) D.length + S (fun j => ((C.getD j 0 : Nat) : Int) * -S (fun k => ((D.getD k 0 : Nat) : Int) * (row.getD (n - 1 - j - 1 - k) 0 : Nat)) D.length) C.length) := by
    unfold ms
    exact (hs n (by omega) (by omega)).add (S_cg fun j hj => (cg.refl _).mul (hs (n - 1 - j) (by omega) (by omega)))
  refine h1.trans ?_
  have e : -S (fun k => ((D.getD k 0 : Nat) : Int) * (row.getD (n - 1 - k) 0 : Nat)) D.length + S (fun j => ((C.getD j 0 : Nat) : Int) * -S (fun k => ((D.getD k 0 : Nat) : Int) * (row.getD (n - 1 - j - 1 - k) 0 : Nat)) D.length) C.length
      = S (fun k => -((D.getD k 0 : Nat) : Int) * ms C row (n - 1 - k)) D.length := by
    have e1 : S (fun j => ((C.getD j 0 : Nat) : Int) * -S (fun k => ((D.getD k 0 : Nat) : Int) * (row.getD (n - 1 - j - 1 - k) 0 : Nat)) D.length) C.length
        = S (fun k => -((D.getD k 0 : Nat) : Int) * S (fun j => ((C.getD j 0 : Nat) : Int) * (row.getD (n - 1 - k - 1 - j) 0 : Nat)) C.length) D.length := by
      have a1 : S (fun j => ((C.getD j 0 : Nat) : Int) * -S (fun k => ((D.getD k 0 : Nat) : Int) * (row.getD (n - 1 - j - 1 - k) 0 : Nat)) D.length) C.length
          = S (fun j => S (fun k => -((D.getD k 0 : Nat) : Int) * (((C.getD j 0 : Nat) : Int) * (row.getD (n - 1 - k - 1 - j) 0 : Nat))) D.length) C.length := S_congr fun j _ => by
        rw [Int.mul_neg, ← Int.neg_mul, ← S_mul]
        refine S_congr fun k _ => ?_
        rw [show n - 1 - j - 1 - k = n - 1 - k - 1 - j by omega, Int.neg_mul, Int.neg_mul, Int.mul_left_comm]
      rw [a1, S_swap]
      exact S_congr fun k _ => S_mul _ _ _
    have e2 : -S (fun k => ((D.getD k 0 : Nat) : Int) * (row.getD (n - 1 - k) 0 : Nat)) D.length = S (fun k => -((D.getD k 0 : Nat) : Int) * (row.getD (n - 1 - k) 0 : Nat)) D.length := by
      have := S_mul (-1) (fun k => ((D.getD k 0 : Nat) : Int) * (row.getD (n - 1 - k) 0 : Nat)) D.length
      rw [Int.neg_mul, Int.one_mul] at this
      rw [← this]
      refine S_congr fun k _ => ?_
      rw [Int.neg_mul, Int.one_mul, Int.neg_mul]
    rw [e1, e2, ← S_add]
    refine S_congr fun k _ => ?_
    unfold ms
    rw [Int.mul_add]
  rw [e]
  have h2 : cg p (S (fun k => -((D.getD k 0 : Nat) : Int) * ms C row (n - 1 - k)) D.length) (S (fun _ => 0) D.length) := S_cg fun k hk => by
    have := (cg.refl (-((D.getD k 0 : Nat) : Int))).mul (hC (n - 1 - k) (by omega) (by omega))
    rwa [Int.mul_zero] at this
  exact h2.trans (cg.of_eq (S_zero fun _ _ => rfl))

/-- No rule is shorter than the one that is found. -/
theorem find_least {p : Nat} (hp : 1 < p) (iv : Nat → Nat) (hiv : ∀ x, x % p ≠ 0 → x * iv x % p = 1 % p) (row D : List Nat) : ∀ n, (∀ i, i < n → D.length ≤ i → cg p (ms D row i) 0) → (findN iv p row n).now.length ≤ D.length
  | 0, _ => Nat.zero_le _
  | n + 1, hD => by
    have ih := find_least hp iv hiv row D n fun i hi hl => hD i (by omega) hl
    have hb := Bm.all hp iv hiv row n
    obtain ⟨o1, o2⟩ := hb.ok
    show (stepN iv p row (findN iv p row n) n).now.length ≤ _
    generalize findN iv p row n = s at *
    unfold stepN
    split
    · exact ih
    · rename_i h0
      have hln : (nextN iv p (missN p s.now row n) s).length = max (s.gap + s.old.length) s.now.length := length_nextN _ _ _ _
      split
      · show (nextN iv p (missN p s.now row n) s).length ≤ _
        omega
      · rename_i h1
        show (grownN (nextN iv p (missN p s.now row n) s) (n + 1 - s.now.length)).length ≤ _
        rw [length_grownN, hln]
        -- the old rule failed here: the other one is long
        rcases Nat.lt_or_ge n (s.now.length + D.length) with h2 | h2
        · omega
        · exfalso
          apply h0
          rw [missN_zero (by omega)]
          exact massey s.now D row n h2 (fun i hi hl => (missN_zero (by omega) _ _ _).mp (hb.now i hi hl)) hD

/-- The search looks at what is ahead alone. -/
theorem missN_take (p : Nat) (r row : List Nat) (m i : Nat) (hi : i < m) : missN p r (row.take m) i = missN p r row i := by
  have hg : ∀ j, j < m → (row.take m).getD j 0 = row.getD j 0 := fun j hj => by
    rw [List.getD_eq_getElem?_getD, List.getD_eq_getElem?_getD, List.getElem?_take_of_lt hj]
  unfold missN
  generalize r.length = n
  induction n with
  | zero => show _ % p = _ % p; rw [hg i hi]
  | succ n ih =>
    show (missF p r (row.take m) i n + r.getD n 0 * (row.take m).getD (i - 1 - n) 0 % p) % p = (missF p r row i n + r.getD n 0 * row.getD (i - 1 - n) 0 % p) % p
    rw [ih, hg _ (by omega)]

theorem findN_take (iv : Nat → Nat) (p : Nat) (row : List Nat) (m : Nat) : ∀ n, n ≤ m → findN iv p (row.take m) n = findN iv p row n
  | 0, _ => rfl
  | n + 1, h => by
    have ih := findN_take iv p row m n (by omega)
    show stepN iv p (row.take m) (findN iv p (row.take m) n) n = stepN iv p row (findN iv p row n) n
    rw [ih]
    unfold stepN
    rw [missN_take _ _ _ _ _ (by omega)]

/-- A row goes on by the rule by which it was made. -/
theorem made_holds {p : Nat} (hp : 0 < p) (r mr : List Nat) (hl : mr.length = r.length) (N : Nat) (i : Nat) (hi : i < r.length + N) (hri : r.length ≤ i) : missN p r (refMore p r mr N) i = 0 := by
  obtain ⟨k, rfl⟩ : ∃ k, i = r.length + k := ⟨i - r.length, by omega⟩
  have hyl := length_refMore p r mr k
  have hg : ∀ j, j < r.length + N → (refMore p r mr N).getD j 0 = sq p r mr j := fun j hj => refMore_sq p r mr N j (by omega)
  have h := miss_next hp r (refMore p r mr N) (refMore p r mr k) (r.length + k) (by omega) (fun j hj => by rw [hg j (by omega), refMore_sq p r mr k j (by omega)]) r.length hri
  show missF p r (refMore p r mr N) (r.length + k) r.length = 0
  rw [h, hg _ hi, ← hl, sq_next p r mr k]
  have hS := nextF_lt hp r (refMore p r mr k) r.length
  have := (sb_zero (x := refNext p r (refMore p r mr k)) hp hS).mp (by
    have h2 : refNext p r (refMore p r mr k) < p := Nat.mod_lt _ hp
    rw [Nat.mod_eq_of_lt h2]
    rfl)
  rw [hl]
  exact this

theorem back_all {p : Nat} (hp : 1 < p) (iv : Nat → Nat) (hiv : ∀ x, x % p ≠ 0 → x * iv x % p = 1 % p) (r mr : List Nat) (hl : mr.length = r.length) :
    let row := refMore p r mr (3 * r.length + 5)
    let s := (findN iv p (row.take (2 * r.length)) (row.take (2 * r.length)).length).now
    s.length ≤ r.length ∧ holdsB p s row = true ∧ (findN iv p row row.length).now = s := by
  intro row s
  have hp0 : 0 < p := by omega
  have hrl : row.length = 4 * r.length + 5 := by rw [length_refMore, hl]; omega
  have htl : (row.take (2 * r.length)).length = 2 * r.length := by rw [List.length_take]; omega
  have hr : ∀ i, i < row.length → r.length ≤ i → cg p (ms r row i) 0 := fun i hi hri => (missN_zero hp0 _ _ _).mp (made_holds hp0 r mr hl _ i (by omega) hri)
  have hs : s = (findN iv p row (2 * r.length)).now := by
    show (findN iv p (row.take (2 * r.length)) (row.take (2 * r.length)).length).now = _
    rw [htl, findN_take _ _ _ _ _ (Nat.le_refl _)]
  have hsl : s.length ≤ r.length := by
    rw [hs]
    exact find_least hp iv hiv row r _ fun i hi hri => hr i (by omega) hri
  have hb := Bm.all hp iv hiv row (2 * r.length)
  -- the rule holds on
  have hall : ∀ n i, i < n → i < row.length → s.length ≤ i → missN p s row i = 0 := by
    intro n
    induction n with
    | zero => intro i hi; omega
    | succ n ih =>
      intro i hi hir hsi
      rcases Nat.lt_or_ge i n with h | h
      · exact ih i h hir hsi
      · obtain rfl : i = n := by omega
        rcases Nat.lt_or_ge i (2 * r.length) with h2 | h2
        · rw [hs] at hsi ⊢
          exact hb.now i h2 hsi
        · rw [missN_zero hp0]
          exact massey s r row i (by omega) (fun j hj hsj => (missN_zero hp0 _ _ _).mp (ih j hj (by omega) hsj)) (fun j hj hrj => hr j (by omega) hrj)
  have hmiss : ∀ i, i < row.length → s.length ≤ i → missN p s row i = 0 := fun i hi hsi => hall (i + 1) i (by omega) hi hsi
  refine ⟨hsl, decide_eq_true hmiss, ?_⟩
  have key : ∀ n, 2 * r.length + n ≤ row.length → (findN iv p row (2 * r.length + n)).now = s := by
    intro n
    induction n with
    | zero => intro _; exact hs.symm
    | succ n ih =>
      intro hn
      have ih := ih (by omega)
      show (stepN iv p row (findN iv p row (2 * r.length + n)) (2 * r.length + n)).now = s
      unfold stepN
      rw [ih, if_pos (hmiss _ (by omega) (by omega))]
  have := key (row.length - 2 * r.length) (by omega)
  rwa [show 2 * r.length + (row.length - 2 * r.length) = row.length by omega] at this

end Vinc.Num

/- Polynomials as lists of coefficients: when two are the same; sums, products, division with what is left. -/
set_option linter.unusedSimpArgs false
set_option linter.unusedVariables false
namespace Vinc.Num

theorem getD_ge {a : List Nat} {j : Nat} (h : a.length ≤ j) : a.getD j 0 = 0 := by
  rw [List.getD_eq_getElem?_getD, List.getElem?_eq_none h]; rfl

theorem length_trimN (a : List Nat) : (trimN a).length = trimL a a.length := by
  have := trimL_le a a.length
  unfold trimN
  rw [List.length_take]; omega

theorem getD_trim (a : List Nat) (j : Nat) : (trimN a).getD j 0 = a.getD j 0 := by
  rcases Nat.lt_or_ge j (trimL a a.length) with h | h
  · unfold trimN
    rw [List.getD_eq_getElem?_getD, List.getD_eq_getElem?_getD, List.getElem?_take_of_lt h]
  · rw [getD_ge (by rw [length_trimN]; exact h)]
    rcases Nat.lt_or_ge j a.length with h2 | h2
    · exact (trimL_zero a a.length j h h2).symm
    · exact (getD_ge h2).symm

theorem trimL_last (a : List Nat) : ∀ n, trimL a n = 0 ∨ a.getD (trimL a n - 1) 0 ≠ 0
  | 0 => .inl rfl
  | n + 1 => by
    unfold trimL
    split
    · exact trimL_last a n
    · rename_i h; exact .inr h

theorem trimN_len_le {a b : List Nat} (h : ∀ j, a.getD j 0 = b.getD j 0) : (trimN a).length ≤ (trimN b).length := by
  rcases Nat.lt_or_ge (trimN b).length (trimN a).length with h1 | h1
  · exfalso
    rw [length_trimN a] at h1
    rcases trimL_last a a.length with h2 | h2
    · omega
    · apply h2
      rw [h, ← getD_trim b]
      exact getD_ge (by omega)
  · exact h1

theorem trimN_ext {a b : List Nat} (h : ∀ j, a.getD j 0 = b.getD j 0) : trimN a = trimN b :=
  list_eq (Nat.le_antisymm (trimN_len_le h) (trimN_len_le fun j => (h j).symm)) fun j _ => by rw [getD_trim, getD_trim, h]

/-- A polynomial without 0 at its end, its coefficients below p. -/
structure Nz (p : Nat) (a : List Nat) : Prop where
  trim : trimN a = a
  lt : ∀ j, a.getD j 0 < p

theorem trimN_trimN (a : List Nat) : trimN (trimN a) = trimN a := trimN_ext (getD_trim a)

theorem Nz.of_trim {p : Nat} {a : List Nat} (h : ∀ j, a.getD j 0 < p) : Nz p (trimN a) := ⟨trimN_trimN a, fun j => by rw [getD_trim]; exact h j⟩

theorem Nz.norm {p : Nat} (hp : 0 < p) (a : List Nat) : Nz p (normN p a) := Nz.of_trim fun j => by rw [getD_map_mod hp]; exact Nat.mod_lt _ hp

theorem Nz.nil {p : Nat} (hp : 0 < p) : Nz p [] := ⟨rfl, fun j => by rw [getD_ge (Nat.zero_le j)]; exact hp⟩

theorem Nz.norm_eq {p : Nat} {a : List Nat} (h : ∀ j, a.getD j 0 < p) (hp : 0 < p) : normN p a = trimN a := by
  unfold normN
  exact trimN_ext fun j => by rw [getD_map_mod hp, Nat.mod_eq_of_lt (h j)]

theorem Nz.norm_id {p : Nat} (hp : 0 < p) {a : List Nat} (h : Nz p a) : normN p a = a := by rw [Nz.norm_eq h.lt hp, h.trim]

theorem Nz.ext {p : Nat} {a b : List Nat} (ha : Nz p a) (hb : Nz p b) (h : ∀ j, a.getD j 0 = b.getD j 0) : a = b := by
  rw [← ha.trim, ← hb.trim]
  exact trimN_ext h

theorem Nz.last {p : Nat} {a : List Nat} (h : Nz p a) (h0 : 0 < a.length) : a.getD (a.length - 1) 0 ≠ 0 := by
  have hl := length_trimN a
  rw [h.trim] at hl
  rcases trimL_last a a.length with h2 | h2
  · omega
  · rwa [← hl] at h2

theorem Nz.len_le {p : Nat} {a : List Nat} (h : Nz p a) {m : Nat} (hz : ∀ j, m ≤ j → a.getD j 0 = 0) : a.length ≤ m := by
  rcases Nat.lt_or_ge m a.length with h1 | h1
  · exact absurd (hz (a.length - 1) (by omega)) (h.last (by omega))
  · exact h1

/-! ### one coefficient -/

def dl (t : Nat) : Nat → Int := fun i => if i = t then 1 else 0

theorem S_delta (f : Nat → Int) (g : Nat → Nat) (m : Nat) : ∀ n, (∀ j, j < n → (g j = m ↔ j = m)) → S (fun j => f j * dl m (g j)) n = if m < n then f m else 0
  | 0, _ => by simp [S]
  | n + 1, h => by
    show S _ n + f n * dl m (g n) = _
    rw [S_delta f g m n fun j hj => h j (by omega)]
    have hn := h n (by omega)
    unfold dl
    by_cases e : n = m
    · rw [if_pos (hn.mpr e), if_neg (by omega), if_pos (by omega), e]; omega
    · rw [if_neg (fun e' => e (hn.mp e'))]
      by_cases h1 : m < n
      · rw [if_pos h1, if_pos (by omega)]; omega
      · rw [if_neg h1, if_neg (by omega)]; omega

theorem ph_dl (a : List Nat) (t k : Nat) : ph (dl t) a k = if k ≤ t then ((a.getD (t - k) 0 : Nat) : Int) else 0 := by
  unfold ph
  by_cases h : k ≤ t
  · rw [if_pos h]
    have e : S (fun j => ((a.getD j 0 : Nat) : Int) * dl t (k + j)) a.length = S (fun j => ((a.getD j 0 : Nat) : Int) * dl (t - k) ((fun j => j) j)) a.length := S_congr fun j _ => by
      unfold dl
      by_cases h1 : k + j = t
      · rw [if_pos h1, if_pos (show j = t - k by omega)]
      · rw [if_neg h1, if_neg (show ¬ j = t - k by omega)]
    rw [e, S_delta _ (fun j => j) _ _ (fun j _ => Iff.rfl)]
    by_cases h1 : t - k < a.length
    · rw [if_pos h1]
    · rw [if_neg h1, getD_ge (by omega)]; rfl
  · rw [if_neg h]
    exact S_zero fun j _ => by unfold dl; rw [if_neg (by omega), Int.mul_zero]

theorem ph_dl0 (a : List Nat) (t : Nat) : ph (dl t) a 0 = ((a.getD t 0 : Nat) : Int) := by
  rw [ph_dl, if_pos (Nat.zero_le t), Nat.sub_zero]

/-- Two that make the same of every row have the same coefficients. -/
theorem co_eq {p : Nat} {a b : List Nat} (ha : ∀ j, a.getD j 0 < p) (hb : ∀ j, b.getD j 0 < p) (h : ∀ s k, cg p (ph s a k) (ph s b k)) (j : Nat) : a.getD j 0 = b.getD j 0 := by
  have := h (dl j) 0
  rw [ph_dl0, ph_dl0] at this
  exact cg.eq_of_lt this (ha j) (hb j)

theorem Nz.ext_ph {p : Nat} {a b : List Nat} (ha : Nz p a) (hb : Nz p b) (h : ∀ s k, cg p (ph s a k) (ph s b k)) : a = b := ha.ext hb (co_eq ha.lt hb.lt h)

/-- What a product makes of a row. -/
abbrev pr (s : Nat → Int) (q b : List Nat) (k : Nat) : Int := ph (fun i => ph s b i) q k

theorem ph_one {p : Nat} (s : Nat → Int) (a b : List Nat) (k : Nat) : cg p (ph s (oneN p a b) k) (pr s a b k) := by
  have h := ph_times (p := p) s a b k
  unfold timesN at h
  rw [ph_trim] at h
  exact h

/-! ### division: there is one quotient alone -/

theorem div_unique {p : Nat} {b : List Nat} (hb : 0 < b.length) {inv : Nat} (hinv : cg p (((b.getD (b.length - 1) 0 : Nat) : Int) * inv) 1) {q q' r r' : List Nat} (hq : ∀ j, q.getD j 0 < p) (hq' : ∀ j, q'.getD j 0 < p) (hr : ∀ j, r.getD j 0 < p) (hr' : ∀ j, r'.getD j 0 < p)
    (hl : r.length < b.length) (hl' : r'.length < b.length) (h : ∀ s k, cg p (pr s q b k + ph s r k) (pr s q' b k + ph s r' k)) : (∀ j, q.getD j 0 = q'.getD j 0) ∧ ∀ j, r.getD j 0 = r'.getD j 0 := by
  have hqq : ∀ d m, m + d = max q.length q'.length → ∀ j, m ≤ j → q.getD j 0 = q'.getD j 0 := by
    intro d
    induction d with
    | zero => intro m hm j hj; rw [getD_ge (by omega), getD_ge (by omega)]
    | succ d ih =>
      intro m hm j hj
      have ih' := ih (m + 1) (by omega)
      by_cases e : j = m
      · subst e
        have h1 := h (dl (j + (b.length - 1))) 0
        rw [ph_dl0 r, ph_dl0 r', getD_ge (a := r) (by omega), getD_ge (a := r') (by omega)] at h1
        have n1 : pr (dl (j + (b.length - 1))) q b 0 = _ := ph_more _ q 0 (max q.length q'.length) (by omega)
        have n2 : pr (dl (j + (b.length - 1))) q' b 0 = _ := ph_more _ q' 0 (max q.length q'.length) (by omega)
        rw [n1, n2] at h1
        have hs := S_upd (k := j) (f := fun i => ((q.getD i 0 : Nat) : Int) * ph (dl (j + (b.length - 1))) b (0 + i)) (g := fun i => ((q'.getD i 0 : Nat) : Int) * ph (dl (j + (b.length - 1))) b (0 + i)) (n := max q.length q'.length) (by omega) (fun i _ hij => by
          show ((q.getD i 0 : Nat) : Int) * ph (dl (j + (b.length - 1))) b (0 + i) = ((q'.getD i 0 : Nat) : Int) * ph (dl (j + (b.length - 1))) b (0 + i)
          rcases Nat.lt_or_ge i j with h2 | h2
          · have e0 : ph (dl (j + (b.length - 1))) b (0 + i) = 0 := by
              rw [ph_dl, if_pos (by omega), getD_ge (by omega)]; rfl
            rw [e0, Int.mul_zero, Int.mul_zero]
          · rw [ih' i (by omega)])
        rw [hs] at h1
        have e1 : ph (dl (j + (b.length - 1))) b (0 + j) = ((b.getD (b.length - 1) 0 : Nat) : Int) := by
          rw [ph_dl, if_pos (by omega), show j + (b.length - 1) - (0 + j) = b.length - 1 by omega]
        have h2 : cg p ((((q.getD j 0 : Nat) : Int) - (q'.getD j 0 : Nat)) * ((b.getD (b.length - 1) 0 : Nat) : Int)) 0 := by
          have h3 := h1.sub (cg.refl (S (fun i => ((q'.getD i 0 : Nat) : Int) * ph (dl (j + (b.length - 1))) b (0 + i)) (max q.length q'.length)))
          rw [e1] at h3
          refine (cg.of_eq ?_).trans (h3.trans (cg.of_eq ?_))
          · rw [Int.sub_mul]; omega
          · omega
        have h3 := h2.mul (cg.refl (inv : Int))
        rw [Int.zero_mul, Int.mul_assoc] at h3
        have h4 := (cg.refl (((q.getD j 0 : Nat) : Int) - (q'.getD j 0 : Nat))).mul hinv
        rw [Int.mul_one] at h4
        have h5 : cg p ((q.getD j 0 : Nat) : Int) ((q'.getD j 0 : Nat) : Int) := by
          have h6 := (h4.symm.trans h3).add (cg.refl ((q'.getD j 0 : Nat) : Int))
          refine (cg.of_eq ?_).trans (h6.trans (cg.of_eq ?_))
          · omega
          · omega
        exact cg.eq_of_lt h5 (hq j) (hq' j)
      · exact ih' j (by omega)
  have hQ : ∀ j, q.getD j 0 = q'.getD j 0 := fun j => hqq (max q.length q'.length) 0 (by omega) j (Nat.zero_le j)
  refine ⟨hQ, co_eq hr hr' fun s k => ?_⟩
  have e : pr s q b k = pr s q' b k := by
    have n1 : pr s q b k = _ := ph_more _ q k (max q.length q'.length) (by omega)
    have n2 : pr s q' b k = _ := ph_more _ q' k (max q.length q'.length) (by omega)
    rw [n1, n2]
    exact S_congr fun j _ => by rw [hQ j]
  have h1 := h s k
  rw [e] at h1
  have h2 := h1.sub (cg.refl (pr s q' b k))
  refine (cg.of_eq ?_).trans (h2.trans (cg.of_eq ?_)) <;> omega

/-! ### the program's division -/

theorem sb_lt {p : Nat} (hp : 0 < p) (x y : Nat) : sb x y p < p := Nat.mod_lt _ hp

theorem divI_lt {p : Nat} (hp : 0 < p) (q : Nat) (b : List Nat) (i : Nat) (left : List Nat) (h : ∀ j, left.getD j 0 < p) : ∀ k, i + k ≤ left.length → ∀ j, (divI p q b i left k).getD j 0 < p := fun k hk j => by
  rw [divI_at _ _ _ _ _ _ hk]
  split
  · exact sb_lt hp _ _
  · exact h j

theorem sb_top {p : Nat} (hp : 0 < p) {x inv bt : Nat} (h : cg p ((bt : Int) * inv) 1) : sb x (x * inv % p * bt % p) p = 0 := by
  have h1 := cg.sb hp x (x * inv % p * bt % p)
  have h2 : cg p ((x * inv % p * bt % p : Nat) : Int) (x : Int) := by
    refine (cg.mod _).trans ?_
    rw [Int.natCast_mul]
    refine ((cg.mod _).mul (cg.refl _)).trans ?_
    rw [Int.natCast_mul, Int.mul_assoc, Int.mul_comm (inv : Int)]
    have := (cg.refl (x : Int)).mul h
    rwa [Int.mul_one] at this
  have h3 := h1.trans ((cg.refl (x : Int)).sub h2)
  rw [Int.sub_self] at h3
  exact (cg.zero_iff hp (sb_lt hp _ _)).mp h3

theorem divO_all {p : Nat} (hp : 0 < p) (inv : Nat) (b : List Nat) (hb : 0 < b.length) (hinv : cg p (((b.getD (b.length - 1) 0 : Nat) : Int) * inv) 1) : ∀ (n : Nat) (q left : List Nat), n + (b.length - 1) ≤ left.length → n ≤ q.length →
    (∀ j, j < n → q.getD j 0 = 0) → (∀ j, q.getD j 0 < p) → (∀ j, left.getD j 0 < p) → (∀ j, n + (b.length - 1) ≤ j → left.getD j 0 = 0) →
    (∀ s k, cg p (pr s (divO p inv b n (q, left)).1 b k + ph s (divO p inv b n (q, left)).2 k) (pr s q b k + ph s left k)) ∧ (∀ j, (divO p inv b n (q, left)).1.getD j 0 < p) ∧ (∀ j, (divO p inv b n (q, left)).2.getD j 0 < p) ∧
    ∀ j, b.length - 1 ≤ j → (divO p inv b n (q, left)).2.getD j 0 = 0
  | 0, q, left, _, _, _, hq, hl, hz => ⟨fun _ _ => cg.refl _, hq, hl, fun j hj => hz j (by omega)⟩
  | n + 1, q, left, hl, hql, hqz, hq, hlt, hz => by
    obtain ⟨qi, hqi⟩ : ∃ qi, left.getD (n + (b.length - 1)) 0 * inv % p = qi := ⟨_, rfl⟩
    have hqip : qi < p := hqi ▸ Nat.mod_lt _ hp
    have ih := divO_all hp inv b hb hinv n (q.set n qi) (divI p qi b n left b.length) (by rw [length_divI]; omega) (by rw [List.length_set]; omega)
      (fun j hj => by rw [getD_set _ _ _ _ (by omega), if_neg (by omega)]; exact hqz j (by omega))
      (fun j => by rw [getD_set _ _ _ _ (by omega)]; split; exact hqip; exact hq j)
      (divI_lt hp qi b n left hlt b.length (by omega))
      (fun j hj => by
        rw [divI_at _ _ _ _ _ _ (by omega)]
        by_cases e : j = n + (b.length - 1)
        · rw [if_pos (by omega), e, show n + (b.length - 1) - n = b.length - 1 by omega, ← hqi]
          exact sb_top hp hinv
        · rw [if_neg (by omega)]
          exact hz j (by omega))
    obtain ⟨i1, i2, i3, i4⟩ := ih
    have e : divO p inv b (n + 1) (q, left) = divO p inv b n (q.set n qi, divI p qi b n left b.length) := by rw [← hqi]; rfl
    rw [e]
    refine ⟨fun s k => (i1 s k).trans ?_, i2, i3, i4⟩
    have h1 : pr s (q.set n qi) b k = pr s q b k + ((qi : Int) - (q.getD n 0 : Nat)) * ph s b (k + n) := ph_set _ q k n qi (by omega)
    rw [h1, hqz n (by omega)]
    have h2 := ph_divI hp s qi b n left k (by omega) b.length (Nat.le_refl _)
    have e3 : S (fun j => ((b.getD j 0 : Nat) : Int) * s (k + n + j)) b.length = ph s b (k + n) := rfl
    rw [e3] at h2
    refine ((cg.refl _).add h2).trans (cg.of_eq ?_)
    have e4 : ((qi : Int) - ((0 : Nat) : Int)) = qi := by omega
    rw [e4]
    omega

/-- What division comes to. -/
theorem divN_all {p : Nat} (hp : 0 < p) (iv : Nat → Nat) (a b : List Nat) (ha : Nz p a) (hb : Nz p b) (hb0 : 0 < b.length) (hinv : cg p (((b.getD (b.length - 1) 0 : Nat) : Int) * iv (b.getD (b.length - 1) 0)) 1) :
    Nz p (divN iv p a b).1 ∧ Nz p (divN iv p a b).2 ∧ (divN iv p a b).2.length < b.length ∧ ∀ s k, cg p (pr s (divN iv p a b).1 b k + ph s (divN iv p a b).2 k) (ph s a k) := by
  unfold divN
  split
  · rename_i h
    refine ⟨Nz.nil hp, ha, h, fun s k => cg.of_eq ?_⟩
    show (0 : Int) + ph s a k = _
    omega
  · rename_i h
    obtain ⟨i1, i2, i3, i4⟩ := divO_all hp (iv (b.getD (b.length - 1) 0)) b hb0 hinv (a.length - (b.length - 1)) (List.replicate (a.length - (b.length - 1)) 0) a (by omega) (by rw [List.length_replicate]; omega)
      (fun j _ => getD_rep _ _) (fun j => by rw [getD_rep]; exact hp) ha.lt (fun j hj => getD_ge (by omega))
    refine ⟨Nz.of_trim i2, Nz.of_trim i3, ?_, fun s k => ?_⟩
    · have := (Nz.of_trim i3).len_le (m := b.length - 1) fun j hj => by rw [getD_trim]; exact i4 j hj
      show (trimN _).length < _
      omega
    · show cg p (ph _ (trimN _) k + ph s (trimN _) k) _
      rw [ph_trim, ph_trim]
      refine (i1 s k).trans (cg.of_eq ?_)
      show ph (fun i => ph s b i) (List.replicate (a.length - (b.length - 1)) 0) k + ph s a k = _
      rw [ph_rep]
      omega

/-! ### sums, multiples -/

def addL (p : Nat) (a b : List Nat) : List Nat := (List.range (max a.length b.length)).map fun j => (a.getD j 0 + b.getD j 0) % p
def subL (p : Nat) (a b : List Nat) : List Nat := (List.range (max a.length b.length)).map fun j => sb (a.getD j 0) (b.getD j 0) p
def scaleL (p : Nat) (a : List Nat) (x : Nat) : List Nat := a.map fun c => c * x % p

theorem getD_addL {p : Nat} (hp : 0 < p) (a b : List Nat) (j : Nat) : (addL p a b).getD j 0 = (a.getD j 0 + b.getD j 0) % p := by
  unfold addL
  rw [List.getD_eq_getElem?_getD, List.getElem?_map]
  rcases Nat.lt_or_ge j (max a.length b.length) with h | h
  · rw [List.getElem?_range h]; rfl
  · rw [List.getElem?_eq_none (by rw [List.length_range]; exact h), getD_ge (a := a) (by omega), getD_ge (a := b) (by omega)]
    exact (Nat.zero_mod p).symm

theorem getD_subL {p : Nat} (hp : 0 < p) (a b : List Nat) (j : Nat) : (subL p a b).getD j 0 = sb (a.getD j 0) (b.getD j 0) p := by
  unfold subL
  rw [List.getD_eq_getElem?_getD, List.getElem?_map]
  rcases Nat.lt_or_ge j (max a.length b.length) with h | h
  · rw [List.getElem?_range h]; rfl
  · rw [List.getElem?_eq_none (by rw [List.length_range]; exact h), getD_ge (a := a) (by omega), getD_ge (a := b) (by omega)]
    show 0 = sb 0 0 p
    unfold sb
    rw [Nat.zero_mod, Nat.zero_add, Nat.sub_zero, Nat.mod_self]

theorem getD_scaleL {p : Nat} (hp : 0 < p) (a : List Nat) (x j : Nat) : (scaleL p a x).getD j 0 = a.getD j 0 * x % p := by
  unfold scaleL
  rw [List.getD_eq_getElem?_getD, List.getD_eq_getElem?_getD, List.getElem?_map]
  cases a[j]? with
  | none => show 0 = 0 * x % p; rw [Nat.zero_mul, Nat.zero_mod]
  | some v => rfl

theorem length_addL (p : Nat) (a b : List Nat) : (addL p a b).length = max a.length b.length := by simp [addL]
theorem length_subL (p : Nat) (a b : List Nat) : (subL p a b).length = max a.length b.length := by simp [subL]
theorem length_scaleL (p : Nat) (a : List Nat) (x : Nat) : (scaleL p a x).length = a.length := by simp [scaleL]

theorem ph_addL {p : Nat} (hp : 0 < p) (s : Nat → Int) (a b : List Nat) (k : Nat) : cg p (ph s (addL p a b) k) (ph s a k + ph s b k) := by
  rw [ph_more s (addL p a b) k _ (by rw [length_addL]; exact Nat.le_refl _), ph_more s a k (max a.length b.length) (by omega), ph_more s b k (max a.length b.length) (by omega), ← S_add]
  refine S_cg fun j _ => ?_
  rw [getD_addL hp, ← Int.add_mul, ← Int.natCast_add]
  exact (cg.mod _).mul (cg.refl _)

theorem ph_subL {p : Nat} (hp : 0 < p) (s : Nat → Int) (a b : List Nat) (k : Nat) : cg p (ph s (subL p a b) k) (ph s a k - ph s b k) := by
  rw [ph_more s (subL p a b) k _ (by rw [length_subL]; exact Nat.le_refl _), ph_more s a k (max a.length b.length) (by omega), ph_more s b k (max a.length b.length) (by omega)]
  have e : S (fun j => ((a.getD j 0 : Nat) : Int) * s (k + j)) (max a.length b.length) - S (fun j => ((b.getD j 0 : Nat) : Int) * s (k + j)) (max a.length b.length) = S (fun j => (((a.getD j 0 : Nat) : Int) - (b.getD j 0 : Nat)) * s (k + j)) (max a.length b.length) := by
    have h1 := S_add (fun j => (((a.getD j 0 : Nat) : Int) - (b.getD j 0 : Nat)) * s (k + j)) (fun j => ((b.getD j 0 : Nat) : Int) * s (k + j)) (max a.length b.length)
    have h2 : S (fun j => (((a.getD j 0 : Nat) : Int) - (b.getD j 0 : Nat)) * s (k + j) + ((b.getD j 0 : Nat) : Int) * s (k + j)) (max a.length b.length) = S (fun j => ((a.getD j 0 : Nat) : Int) * s (k + j)) (max a.length b.length) := S_congr fun j _ => by rw [Int.sub_mul]; omega
    omega
  rw [e]
  refine S_cg fun j _ => ?_
  rw [getD_subL hp]
  exact (cg.sb hp _ _).mul (cg.refl _)

theorem ph_scaleL {p : Nat} (hp : 0 < p) (s : Nat → Int) (a : List Nat) (x k : Nat) : cg p (ph s (scaleL p a x) k) (x * ph s a k) := by
  unfold ph
  rw [length_scaleL, ← S_mul]
  refine S_cg fun j _ => ?_
  rw [getD_scaleL hp]
  refine ((cg.mod _).mul (cg.refl _)).trans (cg.of_eq ?_)
  rw [Int.natCast_mul, Int.mul_comm ((a.getD j 0 : Nat) : Int), Int.mul_assoc]

end Vinc.Num

/- Polynomials: what the reference answers is what the program computes. -/
set_option linter.unusedSimpArgs false
set_option linter.unusedVariables false
namespace Vinc.Num

def rAdd (p : Nat) (a b : List Nat) : List Nat := normN p (addL p a b)
def rScale (p : Nat) (a : List Nat) (x : Nat) : List Nat := normN p (scaleL p a x)
def rSub (p : Nat) (a b : List Nat) : List Nat := rAdd p a (rScale p b (p - 1))
def rMul (p : Nat) (a b : List Nat) : List Nat := normN p (oneN p a b)

/-- The quotient's new term. -/
def term (d c : Nat) : List Nat := (List.replicate (d + 1) 0).set d c

def rDivF (p inv : Nat) (b : List Nat) : Nat → List Nat × List Nat → List Nat × List Nat
  | 0, s => s
  | f + 1, (q, a) => if a.length < b.length then (q, a)
    else rDivF p inv b f (rAdd p q (term (a.length - b.length) (a.getD (a.length - 1) 0 * inv % p)), rSub p a (rMul p (term (a.length - b.length) (a.getD (a.length - 1) 0 * inv % p)) b))

def rInv (p x : Nat) : Nat := x ^ (p - 2) % p

def rDiv (p : Nat) (a b : List Nat) : List Nat × List Nat :=
  rDivF p (rInv p ((normN p b).getD ((normN p b).length - 1) 0)) (normN p b) ((normN p a).length + 1) ([], normN p a)

theorem Nz.rAdd {p : Nat} (hp : 0 < p) (a b : List Nat) : Nz p (Num.rAdd p a b) := Nz.norm hp _
theorem Nz.rSub {p : Nat} (hp : 0 < p) (a b : List Nat) : Nz p (Num.rSub p a b) := Nz.norm hp _
theorem Nz.rMul {p : Nat} (hp : 0 < p) (a b : List Nat) : Nz p (Num.rMul p a b) := Nz.norm hp _

theorem cg.pred {p : Nat} (hp : 0 < p) : cg p ((p - 1 : Nat) : Int) (-1) := ⟨1, by omega⟩

theorem ph_rAdd {p : Nat} (hp : 0 < p) (s : Nat → Int) (a b : List Nat) (k : Nat) : cg p (ph s (rAdd p a b) k) (ph s a k + ph s b k) := (ph_norm _ _ _).trans (ph_addL hp s a b k)

theorem ph_rScale {p : Nat} (hp : 0 < p) (s : Nat → Int) (a : List Nat) (x k : Nat) : cg p (ph s (rScale p a x) k) (x * ph s a k) := (ph_norm _ _ _).trans (ph_scaleL hp s a x k)

theorem ph_rSub {p : Nat} (hp : 0 < p) (s : Nat → Int) (a b : List Nat) (k : Nat) : cg p (ph s (rSub p a b) k) (ph s a k - ph s b k) := by
  refine (ph_rAdd hp s a _ k).trans (((cg.refl _).add ((ph_rScale hp s b _ k).trans ((cg.pred hp).mul (cg.refl _)))).trans (cg.of_eq ?_))
  rw [Int.neg_mul, Int.one_mul]; omega

theorem ph_rMul {p : Nat} (s : Nat → Int) (a b : List Nat) (k : Nat) : cg p (ph s (rMul p a b) k) (pr s a b k) := (ph_norm _ _ _).trans (ph_one s a b k)

theorem ph_term (s : Nat → Int) (d c k : Nat) : ph s (term d c) k = c * s (k + d) := by
  unfold term
  rw [ph_set _ _ _ _ _ (by rw [List.length_replicate]; omega), ph_rep, getD_rep]
  have : ((c : Int) - ((0 : Nat) : Int)) = c := by omega
  rw [this]; omega

theorem getD_term_lt {p : Nat} (hp : 0 < p) (d c : Nat) (hc : c < p) (j : Nat) : (term d c).getD j 0 < p := by
  unfold term
  rw [getD_set _ _ _ _ (by rw [List.length_replicate]; omega), getD_rep]
  split
  · exact hc
  · exact hp

/-- One step of the division makes it shorter. -/
theorem rStep_len {p : Nat} (hp : 0 < p) {inv : Nat} {b : List Nat} (hb0 : 0 < b.length) (hinv : cg p (((b.getD (b.length - 1) 0 : Nat) : Int) * inv) 1) {a : List Nat} (h : b.length ≤ a.length) {d c : Nat} (hd : a.length - b.length = d) (hc : a.getD (a.length - 1) 0 * inv % p = c) :
    (rSub p a (rMul p (term d c) b)).length ≤ a.length - 1 := by
  have hA : ∀ s k, cg p (ph s (rSub p a (rMul p (term d c) b)) k) (ph s a k - c * ph s b (k + d)) := fun s k => by
    refine (ph_rSub hp s a _ k).trans ((cg.refl _).sub ((ph_rMul s _ b k).trans (cg.of_eq ?_)))
    exact ph_term _ d c k
  have hctop : cg p ((c : Int) * ((b.getD (b.length - 1) 0 : Nat) : Int)) ((a.getD (a.length - 1) 0 : Nat) : Int) := by
    rw [← hc]
    refine ((cg.mod _).mul (cg.refl _)).trans ?_
    rw [Int.natCast_mul, Int.mul_assoc, Int.mul_comm (inv : Int)]
    have := (cg.refl ((a.getD (a.length - 1) 0 : Nat) : Int)).mul hinv
    rwa [Int.mul_one] at this
  refine (Nz.rSub hp _ _).len_le fun j hj => ?_
  refine (cg.zero_iff hp ((Nz.rSub hp a _).lt j)).mp ?_
  have h1 := hA (dl j) 0
  rw [ph_dl0, ph_dl0, ph_dl, if_pos (by omega)] at h1
  refine h1.trans ?_
  by_cases e : j = a.length - 1
  · rw [e, show a.length - 1 - (0 + d) = b.length - 1 by omega]
    have := (cg.refl ((a.getD (a.length - 1) 0 : Nat) : Int)).sub hctop
    rwa [Int.sub_self] at this
  · rw [getD_ge (a := a) (by omega), getD_ge (a := b) (by omega)]
    exact cg.of_eq (by simp)

theorem rDivF_all {p : Nat} (hp : 0 < p) (inv : Nat) (b : List Nat) (hb : Nz p b) (hb0 : 0 < b.length) (hinv : cg p (((b.getD (b.length - 1) 0 : Nat) : Int) * inv) 1) : ∀ (f : Nat) (q a : List Nat), a.length ≤ f → Nz p q → Nz p a →
    Nz p (rDivF p inv b f (q, a)).1 ∧ Nz p (rDivF p inv b f (q, a)).2 ∧ (rDivF p inv b f (q, a)).2.length < b.length ∧ ∀ s k, cg p (pr s (rDivF p inv b f (q, a)).1 b k + ph s (rDivF p inv b f (q, a)).2 k) (pr s q b k + ph s a k)
  | 0, q, a, hf, hq, ha => ⟨hq, ha, by show a.length < _; omega, fun s k => cg.refl _⟩
  | f + 1, q, a, hf, hq, ha => by
    by_cases h : a.length < b.length
    · have e : rDivF p inv b (f + 1) (q, a) = (q, a) := if_pos h
      rw [e]
      exact ⟨hq, ha, h, fun s k => cg.refl _⟩
    · obtain ⟨d, hd⟩ : ∃ d, a.length - b.length = d := ⟨_, rfl⟩
      obtain ⟨c, hc⟩ : ∃ c, a.getD (a.length - 1) 0 * inv % p = c := ⟨_, rfl⟩
      have e : rDivF p inv b (f + 1) (q, a) = rDivF p inv b f (rAdd p q (term d c), rSub p a (rMul p (term d c) b)) := by
        rw [← hd, ← hc]; exact if_neg h
      have hA : ∀ s k, cg p (ph s (rSub p a (rMul p (term d c) b)) k) (ph s a k - c * ph s b (k + d)) := fun s k => by
        refine (ph_rSub hp s a _ k).trans ((cg.refl _).sub ((ph_rMul s _ b k).trans (cg.of_eq ?_)))
        exact ph_term _ d c k
      have hctop : cg p ((c : Int) * ((b.getD (b.length - 1) 0 : Nat) : Int)) ((a.getD (a.length - 1) 0 : Nat) : Int) := by
        rw [← hc]
        refine ((cg.mod _).mul (cg.refl _)).trans ?_
        rw [Int.natCast_mul, Int.mul_assoc, Int.mul_comm (inv : Int)]
        have := (cg.refl ((a.getD (a.length - 1) 0 : Nat) : Int)).mul hinv
        rwa [Int.mul_one] at this
      have hlen : (rSub p a (rMul p (term d c) b)).length ≤ a.length - 1 := (Nz.rSub hp _ _).len_le fun j hj => by
        refine (cg.zero_iff hp ((Nz.rSub hp a _).lt j)).mp ?_
        have h1 := hA (dl j) 0
        rw [ph_dl0, ph_dl0, ph_dl, if_pos (by omega)] at h1
        refine h1.trans ?_
        by_cases e : j = a.length - 1
        · rw [e, show a.length - 1 - (0 + d) = b.length - 1 by omega]
          have := (cg.refl ((a.getD (a.length - 1) 0 : Nat) : Int)).sub hctop
          rwa [Int.sub_self] at this
        · rw [getD_ge (a := a) (by omega), getD_ge (a := b) (by omega)]
          exact cg.of_eq (by simp)
      obtain ⟨i1, i2, i3, i4⟩ := rDivF_all hp inv b hb hb0 hinv f (rAdd p q (term d c)) (rSub p a (rMul p (term d c) b)) (by omega) (Nz.rAdd hp _ _) (Nz.rSub hp _ _)
      rw [e]
      refine ⟨i1, i2, i3, fun s k => (i4 s k).trans ?_⟩
      have h2 : cg p (pr s (rAdd p q (term d c)) b k) (pr s q b k + c * ph s b (k + d)) := (ph_rAdd hp _ q _ k).trans ((cg.refl _).add (cg.of_eq (ph_term _ d c k)))
      refine (h2.add (hA s k)).trans (cg.of_eq ?_)
      omega

/-- The two inverses are one. -/
theorem rInv_cg {p : Nat} (hp : IsPrime p) {x : Nat} (hx : x % p ≠ 0) : cg p ((x : Int) * rInv p x) 1 := by
  have h2 := hp.1
  have hd : ¬ p ∣ x := fun h => hx (Nat.mod_eq_zero_of_dvd h)
  have hf := fermat1 hp hd
  have e : x ^ (p - 1) = x * x ^ (p - 2) := by
    rw [show p - 1 = p - 2 + 1 by omega, Nat.pow_succ, Nat.mul_comm]
  unfold rInv
  refine ((cg.refl _).mul (cg.mod _)).trans ?_
  rw [← Int.natCast_mul, ← e]
  refine (cg.mod _).symm.trans (cg.of_eq ?_)
  rw [hf]; rfl

theorem cg_inv {p x y : Nat} (h : x * y % p = 1 % p) : cg p ((x : Int) * y) 1 := by
  rw [← Int.natCast_mul]
  refine (cg.mod _).symm.trans ?_
  rw [h]
  exact cg.mod 1

theorem rDiv_eq {p : Nat} (hp : IsPrime p) (iv : Nat → Nat) (hiv : ∀ x, x % p ≠ 0 → x * iv x % p = 1 % p) (a b : List Nat) (hb0 : 0 < (normN p b).length) : rDiv p a b = divN iv p (normN p a) (normN p b) := by
  have hp0 : 0 < p := hp.pos
  have hb := Nz.norm hp0 b
  have ha := Nz.norm hp0 a
  have hlast : (normN p b).getD ((normN p b).length - 1) 0 % p ≠ 0 := by
    rw [Nat.mod_eq_of_lt (hb.lt _)]
    exact hb.last hb0
  have h1 := cg_inv (hiv _ hlast)
  have h2 := rInv_cg hp hlast
  obtain ⟨a1, a2, a3, a4⟩ := rDivF_all hp0 _ (normN p b) hb hb0 h2 ((normN p a).length + 1) [] (normN p a) (by omega) (Nz.nil hp0) ha
  obtain ⟨b1, b2, b3, b4⟩ := divN_all hp0 iv (normN p a) (normN p b) ha hb hb0 h1
  obtain ⟨u1, u2⟩ := div_unique hb0 h1 a1.lt b1.lt a2.lt b2.lt a3 b3 fun s k => by
    refine (a4 s k).trans ((cg.of_eq ?_).trans (b4 s k).symm)
    show (0 : Int) + _ = _
    omega
  exact Prod.ext (a1.ext b1 u1) (a2.ext b2 u2)

/-! ### the others -/

theorem addL_lt {p : Nat} (hp : 0 < p) (a b : List Nat) (j : Nat) : (addL p a b).getD j 0 < p := by rw [getD_addL hp]; exact Nat.mod_lt _ hp
theorem subL_lt {p : Nat} (hp : 0 < p) (a b : List Nat) (j : Nat) : (subL p a b).getD j 0 < p := by rw [getD_subL hp]; exact sb_lt hp _ _
theorem scaleL_lt {p : Nat} (hp : 0 < p) (a : List Nat) (x j : Nat) : (scaleL p a x).getD j 0 < p := by rw [getD_scaleL hp]; exact Nat.mod_lt _ hp

theorem oneI_lt {p : Nat} (hp : 0 < p) (x : Nat) (b : List Nat) (i : Nat) (out : List Nat) (h : ∀ j, out.getD j 0 < p) : ∀ k, i + k ≤ out.length → ∀ j, (oneI p x b i out k).getD j 0 < p
  | 0, _, j => h j
  | k + 1, hk, j => by
    unfold oneI
    rw [getD_set _ _ _ _ (by rw [length_oneI]; omega)]
    split
    · exact Nat.mod_lt _ hp
    · exact oneI_lt hp x b i out h k (by omega) j

theorem oneO_lt {p : Nat} (hp : 0 < p) (a b : List Nat) (hb : 0 < b.length) : ∀ n, n ≤ a.length → ∀ j, (oneO p a b n).getD j 0 < p
  | 0, _, j => by
    unfold oneO
    rw [getD_rep]; exact hp
  | n + 1, hn, j => oneI_lt hp _ b n _ (oneO_lt hp a b hb n (by omega)) b.length (by rw [length_oneO]; omega) j

theorem oneN_lt {p : Nat} (hp : 0 < p) (a b : List Nat) (j : Nat) : (oneN p a b).getD j 0 < p := by
  unfold oneN
  split
  · rw [getD_ge (Nat.zero_le j)]; exact hp
  · exact oneO_lt hp a b (by omega) a.length (Nat.le_refl _) j

theorem rAdd_eq {p : Nat} (hp : 0 < p) (a b : List Nat) : rAdd p a b = trimN (addL p a b) := Nz.norm_eq (addL_lt hp a b) hp
theorem rMul_eq {p : Nat} (hp : 0 < p) (a b : List Nat) : rMul p a b = timesN p a b := Nz.norm_eq (oneN_lt hp a b) hp
theorem rScale_eq {p : Nat} (hp : 0 < p) (a : List Nat) (x : Nat) : rScale p a x = trimN (scaleL p a x) := Nz.norm_eq (scaleL_lt hp a x) hp

theorem rSub_eq {p : Nat} (hp : 0 < p) (a b : List Nat) : rSub p a b = trimN (subL p a b) :=
  (Nz.rSub hp a b).ext_ph (Nz.of_trim (subL_lt hp a b)) fun s k => by
    rw [ph_trim]
    exact (ph_rSub hp s a b k).trans (ph_subL hp s a b k).symm

/-- The inverse as a number. -/
theorem iv_eq {p : Nat} (hp : IsPrime p) {x y z : Nat} (hy : y < p) (hz : z < p) (h1 : cg p ((x : Int) * y) 1) (h2 : cg p ((x : Int) * z) 1) : y = z := by
  refine cg.eq_of_lt ?_ hy hz
  have a1 := h1.mul (cg.refl (z : Int))
  have a2 := h2.mul (cg.refl (y : Int))
  rw [Int.one_mul] at a1 a2
  refine a2.symm.trans ((cg.of_eq ?_).trans a1)
  rw [Int.mul_assoc, Int.mul_assoc, Int.mul_comm (z : Int)]

/-! ### what is made with loops -/

/-- A row of numbers that are told one by one. -/
def tabK (f : Nat → Nat) (n : Nat) : Nat → List Nat
  | 0 => List.replicate n 0
  | i + 1 => (tabK f n i).set i (f i)

theorem length_tabK (f : Nat → Nat) (n : Nat) : ∀ i, (tabK f n i).length = n
  | 0 => by simp [tabK]
  | i + 1 => by simp [tabK, length_tabK f n i]

theorem tabK_at (f : Nat → Nat) (n : Nat) : ∀ i, i ≤ n → ∀ j, (tabK f n i).getD j 0 = if j < i then f j else 0
  | 0, _, j => by unfold tabK; rw [getD_rep]; simp
  | i + 1, hi, j => by
    unfold tabK
    rw [getD_set _ _ _ _ (by rw [length_tabK]; omega), tabK_at f n i (by omega) j]
    by_cases h : j = i
    · rw [if_pos h, h, if_pos (by omega)]
    · rw [if_neg h]
      by_cases h2 : j < i
      · rw [if_pos h2, if_pos (by omega)]
      · rw [if_neg h2, if_neg (by omega)]

def tabL (f : Nat → Nat) (n : Nat) : List Nat := (List.range n).map f

theorem getD_tabL (f : Nat → Nat) (n j : Nat) : (tabL f n).getD j 0 = if j < n then f j else 0 := by
  unfold tabL
  rw [List.getD_eq_getElem?_getD, List.getElem?_map]
  by_cases h : j < n
  · rw [List.getElem?_range h, if_pos h]; rfl
  · rw [List.getElem?_eq_none (by rw [List.length_range]; omega), if_neg h]; rfl

theorem tabK_all (f : Nat → Nat) (n : Nat) : tabK f n n = tabL f n := by
  refine list_eq (by rw [length_tabK]; simp [tabL]) fun j hj => ?_
  rw [length_tabK] at hj
  rw [tabK_at f n n (Nat.le_refl _), getD_tabL]

theorem tabL_snoc (f : Nat → Nat) (n : Nat) : tabL f (n + 1) = tabL f n ++ [f n] := by
  unfold tabL
  rw [List.range_succ, List.map_append]
  rfl

def deriveN (p : Nat) (a : List Nat) : List Nat := trimN (tabL (fun i => a.getD (i + 1) 0 * (i + 1) % p) (a.length - 1))

def monicN (iv : Nat → Nat) (p : Nat) (a : List Nat) : List Nat := trimN (scaleL p (normN p a) (iv ((normN p a).getD ((normN p a).length - 1) 0)))

/-- The value at a place: the coefficients from the highest one down. -/
def evalF (p x : Nat) (a : List Nat) : Nat → Nat
  | 0 => 0
  | n + 1 => (evalF p x a n * x % p + a.getD (a.length - 1 - n) 0) % p

end Vinc.Num

/- Equations that are taken off one another: if nothing is left over, there is a solution. No program in sight. -/
set_option linter.unusedVariables false
namespace Vinc.Num

/-- A row's equation: n coefficients, and what they come to. -/
def EqR (p n : Nat) (r : List Nat) (D : Nat → Int) : Prop := cg p (S (fun k => ((r.getD k 0 : Nat) : Int) * D k) n) ((r.getD n 0 : Nat) : Int)

structure FI (p n m k u : Nat) (M0 M : Nat → List Nat) : Prop where
  le : u ≤ m
  zero : ∀ i, u ≤ i → i < m → ∀ c, c < k → (M i).getD c 0 = 0
  free : ∀ E : Nat → Int, ∃ D : Nat → Int, (∀ c, k ≤ c → D c = E c) ∧ ∀ r, r < u → EqR p n (M r) D
  back : ∀ D : Nat → Int, (∀ j, j < m → EqR p n (M j) D) → ∀ j, j < m → EqR p n (M0 j) D

theorem FI.start (p n m : Nat) (M : Nat → List Nat) : FI p n m 0 0 M M :=
  ⟨Nat.zero_le _, fun i _ _ c hc => absurd hc (Nat.not_lt_zero c), fun E => ⟨E, fun _ _ => rfl, fun r hr => absurd hr (Nat.not_lt_zero r)⟩, fun _ h => h⟩

theorem FI.skip {p n m k u : Nat} {M0 M : Nat → List Nat} (h : FI p n m k u M0 M) (hz : ∀ i, u ≤ i → i < m → (M i).getD k 0 = 0) : FI p n m (k + 1) u M0 M := by
  refine ⟨h.le, fun i h1 h2 c hc => ?_, fun E => ?_, h.back⟩
  · rcases Nat.lt_or_ge c k with h3 | h3
    · exact h.zero i h1 h2 c h3
    · rw [show c = k by omega]; exact hz i h1 h2
  · obtain ⟨D, h1, h2⟩ := h.free E
    exact ⟨D, fun c hc => h1 c (by omega), h2⟩

/-- Two rows change places. -/
def swpM (M : Nat → List Nat) (a b : Nat) : Nat → List Nat := fun j => if j = a then M b else if j = b then M a else M j

theorem FI.swap {p n m k u : Nat} {M0 M : Nat → List Nat} (h : FI p n m k u M0 M) {a : Nat} (ha : u ≤ a) (ham : a < m) : FI p n m k u M0 (swpM M a u) := by
  have hum : u < m := by omega
  refine ⟨h.le, fun i h1 h2 c hc => ?_, fun E => ?_, fun D hD => h.back D fun j hj => ?_⟩
  · unfold swpM
    split
    · exact h.zero u (Nat.le_refl _) hum c hc
    · split
      · exact h.zero a ha ham c hc
      · exact h.zero i h1 h2 c hc
  · obtain ⟨D, h1, h2⟩ := h.free E
    refine ⟨D, h1, fun r hr => ?_⟩
    unfold swpM
    rw [if_neg (by omega), if_neg (by omega)]
    exact h2 r hr
  · by_cases h1 : j = a
    · subst h1
      have := hD u hum
      unfold swpM at this
      by_cases h2 : u = j
      · rw [if_pos h2] at this
        rw [h2] at this
        exact this
      · rw [if_neg h2, if_pos rfl] at this
        exact this
    · by_cases h2 : j = u
      · subst h2
        have := hD a ham
        unfold swpM at this
        rw [if_pos rfl] at this
        exact this
      · have := hD j hj
        unfold swpM at this
        rw [if_neg h1, if_neg h2] at this
        exact this

/-- A row, from which a number of times another one is taken, from a place on. -/
def elimR (p n k t : Nat) (one r : List Nat) : List Nat := tabL (fun c => if k ≤ c then sb (r.getD c 0) (t * one.getD c 0 % p) p else r.getD c 0) (n + 1)

theorem FI.elim {p n m k u inv : Nat} (hp : 0 < p) {M0 M M' : Nat → List Nat} (h : FI p n m k u M0 M) (hkn : k < n) (hum : u < m) (hinv : cg p ((((M u).getD k 0 : Nat) : Int) * inv) 1)
    (h1 : ∀ i, i ≤ u → M' i = M i) (h2 : ∀ i, u < i → i < m → M' i = elimR p n k ((M i).getD k 0 * inv % p) (M u) (M i)) : FI p n m (k + 1) (u + 1) M0 M' := by
  have hge : ∀ i, u < i → i < m → ∀ c, c ≤ n → (M' i).getD c 0 = if k ≤ c then sb ((M i).getD c 0) ((M i).getD k 0 * inv % p * (M u).getD c 0 % p) p else (M i).getD c 0 := fun i hi him c hc => by
    rw [h2 i hi him]
    unfold elimR
    rw [getD_tabL, if_pos (by omega)]
  refine ⟨hum, fun i hi him c hc => ?_, fun E => ?_, fun D hD => h.back D fun j hj => ?_⟩
  · rw [hge i (by omega) him c (by omega)]
    rcases Nat.lt_or_ge c k with h3 | h3
    · rw [if_neg (by omega)]
      exact h.zero i (by omega) him c h3
    · rw [if_pos h3, show c = k by omega]
      exact sb_top hp hinv
  · obtain ⟨g, hg⟩ : ∃ g : Nat → Int, g = fun c => if c = k then 0 else (((M u).getD c 0 : Nat) : Int) * E c := ⟨_, rfl⟩
    obtain ⟨D, d1, d2⟩ := h.free (fun c => if c = k then ((((M u).getD n 0 : Nat) : Int) - S g n) * inv else E c)
    refine ⟨D, fun c hc => by rw [d1 c (by omega), if_neg (by omega)], fun r hr => ?_⟩
    rw [h1 r (by omega)]
    rcases Nat.lt_or_ge r u with h3 | h3
    · exact d2 r h3
    · rw [show r = u by omega]
      have e : S (fun c => (((M u).getD c 0 : Nat) : Int) * D c) n = S g n + ((((M u).getD k 0 : Nat) : Int) * D k - g k) := S_upd hkn fun c hc hne => by
        rw [hg]
        show _ = if c = k then (0 : Int) else _
        rw [if_neg hne]
        rcases Nat.lt_or_ge c k with h4 | h4
        · rw [h.zero u (Nat.le_refl _) hum c h4]
          simp
        · rw [d1 c h4, if_neg hne]
      have eg : g k = 0 := by rw [hg]; exact if_pos rfl
      have ed : D k = ((((M u).getD n 0 : Nat) : Int) - S g n) * inv := by rw [d1 k (Nat.le_refl _), if_pos rfl]
      unfold EqR
      rw [e, eg, ed]
      generalize S g n = s
      generalize (((M u).getD n 0 : Nat) : Int) = y at *
      generalize (((M u).getD k 0 : Nat) : Int) = x at *
      have h5 : x * ((y - s) * inv) = (x * inv) * (y - s) := by rw [Int.mul_comm (y - s), Int.mul_assoc]
      rw [h5]
      refine ((cg.refl s).add ((hinv.mul (cg.refl (y - s))).sub (cg.refl 0))).trans (cg.of_eq ?_)
      rw [Int.one_mul]
      omega
  · rcases Nat.lt_or_ge u j with h3 | h3
    · have e1 := hD j hj
      have e2 := hD u hum
      rw [h1 u (Nat.le_refl _)] at e2
      have key : ∀ c, c ≤ n → cg p (((M j).getD c 0 : Nat) : Int) ((((M' j).getD c 0 : Nat) : Int) + (((M j).getD k 0 * inv % p : Nat) : Int) * (((M u).getD c 0 : Nat) : Int)) := fun c hc => by
        rw [hge j h3 hj c hc]
        split
        · have hb := cg.sb hp ((M j).getD c 0) ((M j).getD k 0 * inv % p * (M u).getD c 0 % p)
          have hm : cg p (((M j).getD k 0 * inv % p * (M u).getD c 0 % p : Nat) : Int) ((((M j).getD k 0 * inv % p : Nat) : Int) * (((M u).getD c 0 : Nat) : Int)) := (cg.mod _).trans (cg.of_eq (Int.natCast_mul _ _))
          have h6 := (hb.trans ((cg.refl _).sub hm)).add (cg.refl ((((M j).getD k 0 * inv % p : Nat) : Int) * (((M u).getD c 0 : Nat) : Int)))
          refine cg.trans (cg.of_eq ?_) h6.symm
          omega
        · rw [h.zero u (Nat.le_refl _) hum c (by omega)]
          refine cg.of_eq ?_
          simp
      unfold EqR at e1 e2 ⊢
      refine cg.trans (S_cg fun c hc => (key c (by omega)).mul (cg.refl (D c))) ?_
      have e3 : S (fun c => ((((M' j).getD c 0 : Nat) : Int) + (((M j).getD k 0 * inv % p : Nat) : Int) * (((M u).getD c 0 : Nat) : Int)) * D c) n = S (fun c => (((M' j).getD c 0 : Nat) : Int) * D c) n + (((M j).getD k 0 * inv % p : Nat) : Int) * S (fun c => (((M u).getD c 0 : Nat) : Int) * D c) n := by
        rw [← S_mul, ← S_add]
        refine S_congr fun c _ => ?_
        rw [Int.add_mul, Int.mul_assoc]
      rw [e3]
      exact (e1.add ((cg.refl _).mul e2)).trans (key n (Nat.le_refl _)).symm
    · have := hD j hj
      rw [h1 j h3] at this
      exact this

theorem FI.congr {p n m k u : Nat} {M0 M M' : Nat → List Nat} (h : FI p n m k u M0 M) (e : ∀ j, j < m → M' j = M j) : FI p n m k u M0 M' := by
  refine ⟨h.le, fun i h1 h2 c hc => by rw [e i h2]; exact h.zero i h1 h2 c hc, fun E => ?_, fun D hD => h.back D fun j hj => by rw [← e j hj]; exact hD j hj⟩
  obtain ⟨D, h1, h2⟩ := h.free E
  exact ⟨D, h1, fun r hr => by rw [e r (by have := h.le; omega)]; exact h2 r hr⟩

/-- The same, as far as a place. -/
def elimP (p n k c t : Nat) (one r : List Nat) : List Nat := tabL (fun q => if k ≤ q ∧ q < c then sb (r.getD q 0) (t * one.getD q 0 % p) p else r.getD q 0) (n + 1)

theorem tabL_length (f : Nat → Nat) (n : Nat) : (tabL f n).length = n := by simp [tabL]

theorem elimP_len (p n k c t : Nat) (one r : List Nat) : (elimP p n k c t one r).length = n + 1 := tabL_length _ _

theorem elimP_zero (p n k t : Nat) (one r : List Nat) (hr : r.length = n + 1) : elimP p n k k t one r = r := by
  refine list_eq ((elimP_len ..).trans hr.symm) fun j hj => ?_
  rw [elimP_len] at hj
  unfold elimP
  rw [getD_tabL, if_pos hj, if_neg (by omega)]

theorem elimP_at (p n k c t : Nat) (one r : List Nat) (hc : c ≤ n) : (elimP p n k c t one r).getD c 0 = r.getD c 0 := by
  unfold elimP
  rw [getD_tabL, if_pos (by omega), if_neg (by omega)]

theorem elimP_set (p n k c t : Nat) (one r : List Nat) (hk : k ≤ c) (hc : c ≤ n) : (elimP p n k c t one r).set c (sb (r.getD c 0) (t * one.getD c 0 % p) p) = elimP p n k (c + 1) t one r := by
  refine list_eq (by rw [List.length_set, elimP_len, elimP_len]) fun j hj => ?_
  rw [List.length_set, elimP_len] at hj
  rw [getD_set _ _ _ _ (by rw [elimP_len]; omega)]
  unfold elimP
  rw [getD_tabL, getD_tabL, if_pos hj, if_pos hj]
  by_cases h1 : j = c
  · subst h1
    rw [if_pos rfl, if_pos ⟨hk, Nat.lt_succ_self _⟩]
  · rw [if_neg h1]
    by_cases h2 : k ≤ j ∧ j < c
    · rw [if_pos h2, if_pos ⟨h2.1, by omega⟩]
    · rw [if_neg h2, if_neg (by omega)]

theorem elimP_all (p n k t : Nat) (one r : List Nat) : elimP p n k (n + 1) t one r = elimR p n k t one r := by
  refine list_eq ((elimP_len ..).trans (tabL_length _ _).symm) fun j hj => ?_
  rw [elimP_len] at hj
  unfold elimP elimR
  rw [getD_tabL, getD_tabL, if_pos hj, if_pos hj]
  by_cases h : k ≤ j
  · rw [if_pos ⟨h, hj⟩, if_pos h]
  · rw [if_neg (fun e => h e.1), if_neg h]

/-- A row of the right length, of numbers below p. -/
def RowOk (p n : Nat) (r : List Nat) : Prop := r.length = n + 1 ∧ ∀ c, r.getD c 0 < p

theorem elimR_ok {p : Nat} (hp : 0 < p) (n k t : Nat) (one : List Nat) {r : List Nat} (h : RowOk p n r) : RowOk p n (elimR p n k t one r) := by
  refine ⟨tabL_length _ _, fun c => ?_⟩
  unfold elimR
  rw [getD_tabL]
  split
  · split
    · exact sb_lt hp _ _
    · exact h.2 c
  · exact hp

theorem FI.done {p n m u : Nat} {M0 M : Nat → List Nat} (h : FI p n m n u M0 M) (hz : ∀ i, u ≤ i → i < m → (M i).getD n 0 = 0) : ∃ D : Nat → Int, ∀ j, j < m → EqR p n (M0 j) D := by
  obtain ⟨D, _, h2⟩ := h.free (fun _ => 0)
  refine ⟨D, h.back D fun j hj => ?_⟩
  rcases Nat.lt_or_ge j u with h3 | h3
  · exact h2 j h3
  · unfold EqR
    rw [hz j h3 hj]
    refine cg.of_eq (S_zero fun c hc => ?_)
    rw [h.zero j h3 hj c hc]
    simp

/-- The equations of a row. -/
def rowE (p n : Nat) (row : List Nat) (j : Nat) : List Nat := tabL (fun c => row.getD (n + j - 1 - c) 0 % p) n ++ [sb 0 (row.getD (n + j) 0) p]

theorem rowE_len (p n : Nat) (row : List Nat) (j : Nat) : (rowE p n row j).length = n + 1 := by
  unfold rowE
  rw [List.length_append]
  simp [tabL]

theorem rowE_at (p n : Nat) (row : List Nat) (j c : Nat) (hc : c < n) : (rowE p n row j).getD c 0 = row.getD (n + j - 1 - c) 0 % p := by
  unfold rowE
  rw [List.getD_eq_getElem?_getD, List.getElem?_append_left (by simp [tabL]; exact hc), ← List.getD_eq_getElem?_getD, getD_tabL, if_pos hc]

theorem rowE_last (p n : Nat) (row : List Nat) (j : Nat) : (rowE p n row j).getD n 0 = sb 0 (row.getD (n + j) 0) p := by
  have hl : (tabL (fun c => row.getD (n + j - 1 - c) 0 % p) n).length = n := by simp [tabL]
  unfold rowE
  rw [List.getD_eq_getElem?_getD, List.getElem?_append_right (by omega), hl, Nat.sub_self]
  rfl

theorem rowE_ok {p : Nat} (hp : 0 < p) (n : Nat) (row : List Nat) (j : Nat) : RowOk p n (rowE p n row j) := by
  refine ⟨rowE_len p n row j, fun c => ?_⟩
  rcases Nat.lt_trichotomy c n with h | h | h
  · rw [rowE_at p n row j c h]; exact Nat.mod_lt _ hp
  · subst h; rw [rowE_last]; exact sb_lt hp _ _
  · rw [List.getD_eq_getElem?_getD, List.getElem?_eq_none (by rw [rowE_len]; omega)]
    exact hp

/-- A SOLUTION IS A RULE. -/
theorem rule_of {p n m : Nat} (hp : 0 < p) (row : List Nat) (hm : n + m = row.length) {D : Nat → Int} (hD : ∀ j, j < m → EqR p n (rowE p n row j) D) :
    ∀ i, i < row.length → (tabL (fun k => (D k % p).toNat) n).length ≤ i → cg p (ms (tabL (fun k => (D k % p).toNat) n) row i) 0 := fun i hi hni => by
  have hl : (tabL (fun k => (D k % p).toNat) n).length = n := by simp [tabL]
  rw [hl] at hni
  have h := hD (i - n) (by omega)
  unfold EqR at h
  rw [rowE_last, show n + (i - n) = i by omega] at h
  unfold ms
  rw [hl]
  have h1 : cg p (S (fun j => (((tabL (fun k => (D k % p).toNat) n).getD j 0 : Nat) : Int) * (row.getD (i - 1 - j) 0 : Nat)) n) (S (fun k => (((rowE p n row (i - n)).getD k 0 : Nat) : Int) * D k) n) := S_cg fun j hj => by
    rw [getD_tabL, if_pos hj, rowE_at p n row (i - n) j hj, show n + (i - n) - 1 - j = i - 1 - j by omega]
    have h2 : cg p (((D j % p).toNat : Nat) : Int) (D j) := by
      have h3 : (0 : Int) ≤ D j % p := Int.emod_nonneg _ (by omega)
      rw [Int.toNat_of_nonneg h3]
      exact ⟨-(D j / p), by
        have := Int.emod_add_mul_ediv (D j) p
        rw [Int.mul_neg]
        omega⟩
    refine ((h2.mul (cg.refl _)).trans (cg.of_eq (Int.mul_comm _ _))).trans ((cg.mod _).symm.mul (cg.refl _))
  have h4 := cg.sb hp 0 (row.getD i 0)
  refine ((cg.refl _).add (h1.trans (h.trans h4))).trans (cg.of_eq ?_)
  omega

end Vinc.Num
