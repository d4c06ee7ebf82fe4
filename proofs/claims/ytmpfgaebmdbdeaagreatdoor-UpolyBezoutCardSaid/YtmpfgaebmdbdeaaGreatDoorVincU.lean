/- For the proofs of functions: states written out, weakening, results, lists of words. -/
import Derived.Test.YtmpfgaebmdbdeaaGreatDoorVincO
set_option linter.unusedSimpArgs false
set_option linter.unusedVariables false
namespace Vinc
open Go Go.RowKit

variable {c : Cx} {σ σ' : St}

/-! ### states written out -/

def tOf : List (Nat × AV) → Nat → AV
  | [], _ => .p .any
  | (k, x) :: l, j => bif Nat.beq j k then x else tOf l j

def hOf : List (Nat × Ob) → Nat → Option Ob
  | [], _ => none
  | (k, x) :: l, j => bif Nat.beq j k then some x else hOf l j

def uOf : List (Nat × Ob) → Nat → Bool
  | [], _ => false
  | (k, _) :: l, j => bif Nat.beq j k then true else uOf l j

/-- A state: what is known of its slots, and the objects. -/
abbrev mk (l : List (Nat × AV)) (hs : List (Nat × Ob)) : St := ⟨tOf l, hOf hs, uOf hs⟩

theorem uOf_eq : ∀ (hs : List (Nat × Ob)) (i : Nat), uOf hs i = (hOf hs i).isSome
  | [], _ => rfl
  | (k, x) :: l, j => by
    simp only [uOf, hOf]
    cases Nat.beq j k
    · exact uOf_eq l j
    · rfl

/-! ### one value says less than another -/

/-- Of values in memory that nobody writes. -/
def PLe (x y : PV) : Prop := ∀ (w : World) (ok : Nat → Prop) (v : Value), Rep w ok x v → Rep w ok y v

theorem PLe.refl (x : PV) : PLe x x := fun _ _ _ h => h
theorem PLe.of_eq {x y : PV} (h : x = y) : PLe x y := h ▸ PLe.refl x
theorem PLe.any (x : PV) : PLe x .any := fun _ _ _ _ => trivial
theorem PLe.trans {x y z : PV} (h : PLe x y) (k : PLe y z) : PLe x z := fun _ _ _ r => k _ _ _ (h _ _ _ r)

theorem PLe.sl {n s : Nat} {f g : Nat → PV} (h : ∀ j, j < n * s → PLe (f j) (g j)) : PLe (.sl n s f) (.sl n s g) := by
  rintro w ok v ⟨A, cap, rfl, hc, hr⟩
  refine ⟨A, cap, rfl, hc, hr.imp id ?_⟩
  rintro ⟨b, o, rfl, hb, hr⟩
  refine ⟨b, o, rfl, hb, fun j hj => ?_⟩
  obtain ⟨u, h1, h2, h3⟩ := hr j hj
  exact ⟨u, h1, h2, h j hj _ _ _ h3⟩

theorem PLe.ptr {n off : Nat} {f g : Nat → PV} (h : ∀ j, j < n → PLe (f j) (g j)) : PLe (.ptr n f off) (.ptr n g off) := by
  rintro w ok v ⟨b, o, rfl, hb, hr⟩
  refine ⟨b, o, rfl, hb, fun j hj => ?_⟩
  obtain ⟨u, h1, h2, h3⟩ := hr j hj
  exact ⟨u, h1, h2, h j hj _ _ _ h3⟩

theorem PLe.agg {n : Nat} {f g : Nat → PV} (h : ∀ j, j < n → PLe (f j) (g j)) : PLe (.agg n f) (.agg n g) := by
  rintro w ok v ⟨cs, rfl, hs, hr⟩
  exact ⟨cs, rfl, hs, fun j hj => ⟨(hr j hj).1, h j hj _ _ _ (hr j hj).2⟩⟩

theorem PLe.tup {n : Nat} {f g : Nat → PV} (h : ∀ j, j < n → PLe (f j) (g j)) : PLe (.tup n f) (.tup n g) := by
  rintro w ok v ⟨cs, rfl, hs, hr⟩
  exact ⟨cs, rfl, hs, fun j hj => h j hj _ _ _ (hr j hj)⟩

theorem PLe.nil {s : Nat} {f : Nat → PV} : PLe (.val (.slice none 0 0)) (.sl 0 s f) := by
  rintro w ok v rfl
  exact ⟨none, 0, rfl, Nat.le_refl _, .inl (by simp)⟩

/-- Where a new state's objects stand in the old one. -/
def Ren (σ σ' : St) (ρ : Nat → Nat) : Prop := ∀ i, (σ'.h i).isSome → (σ.h (ρ i)).isSome

def Lr (L : Locs) (σ' : St) (ρ : Nat → Nat) : Locs := fun i => bif (σ'.h i).isSome then L (ρ i) else none

def Le (c : Cx) (σ σ' : St) (ρ : Nat → Nat) (x y : AV) : Prop := ∀ L a w, Inv c σ L a w → ∀ v, RepA w (σ.ok c L w) L x v → RepA w (σ'.ok c (Lr L σ' ρ) w) (Lr L σ' ρ) y v

variable {ρ : Nat → Nat}

theorem Lr_some {L : Locs} {i : Nat} (h : (σ'.h i).isSome) : Lr L σ' ρ i = L (ρ i) := by unfold Lr; rw [h]; rfl

theorem ok_ren (hd : Ren σ σ' ρ) {L : Locs} {w : World} {b : Nat} (h : σ.ok c L w b) : σ'.ok c (Lr L σ' ρ) w b := by
  refine ⟨h.1, fun ⟨i, hi, hL⟩ => h.2 ⟨ρ i, hd i hi, ?_⟩⟩
  rw [Lr_some hi] at hL
  exact hL

theorem le_any (x : AV) : Le c σ σ' ρ x (.p .any) := fun _ _ _ _ _ _ => trivial
theorem le_p (hd : Ren σ σ' ρ) {x y : PV} (h : PLe x y) : Le c σ σ' ρ (.p x) (.p y) := fun _ _ _ _ v hr =>
  h _ _ v (Rep.mono (fun _ _ => rfl) (fun _ hb => ok_ren hd hb) _ _ hr)
theorem le_refl (hd : Ren σ σ' ρ) (x : PV) : Le c σ σ' ρ (.p x) (.p x) := le_p hd (PLe.refl x)
theorem le_own {i off n s : Nat} (h : (σ'.h i).isSome) : Le c σ σ' ρ (.own (ρ i) off n s) (.own i off n s) := fun L _ _ _ v hr => by
  rcases hr with ⟨h1, h2⟩ | ⟨B, o, h1, h2⟩ | ⟨B, cap, h1, h2⟩
  · exact .inl ⟨(Lr_some h).trans h1, h2⟩
  · exact .inr (.inl ⟨B, o, (Lr_some h).trans h1, h2⟩)
  · exact .inr (.inr ⟨B, cap, (Lr_some h).trans h1, h2⟩)
theorem le_oat {i off : Nat} (h : (σ'.h i).isSome) : Le c σ σ' ρ (.oat (ρ i) off) (.oat i off) := fun L _ _ _ v ⟨B, h1, h2⟩ => ⟨B, (Lr_some h).trans h1, h2⟩

/-- An object of the call's own is given out of hand: nobody writes it any more. -/
theorem le_freeze (hd : Ren σ σ' ρ) {i off n s : Nat} {o : Ob} {g : Nat → PV} (h0 : σ.h i = some o) (hn : off + n * s ≤ o.n) (hne : ∀ k, (σ'.h k).isSome → ρ k ≠ i)
    (hf : ∀ j, j < n * s → Le c σ σ' ρ (o.f (off + j)) (.p (g j))) : Le c σ σ' ρ (.own i off n s) (.p (.sl n s g)) := fun L a w I v hr => by
  rcases hr with ⟨h1, h2, h3⟩ | ⟨B, o', h1, h2, h3⟩ | ⟨B, cap, h1, h2, h3, cs, e, h4, h5⟩
  · subst h2; obtain ⟨A, h3⟩ := h3; exact ⟨A, 0, h3, Nat.le_refl _, .inl (by simp)⟩
  · subst h2; exact ⟨_, 0, h3, Nat.le_refl _, .inl (by simp)⟩
  · refine ⟨_, cap, h2, h3, .inr ⟨B, off, rfl, ⟨.inr (I.own _ _ h1), fun ⟨k, hk, hL⟩ => ?_⟩, fun j hj => ?_⟩⟩
    · rw [Lr_some hk] at hL
      exact hne k hk (I.inj _ _ B (hd k hk) (by rw [h0]; rfl) hL h1)
    · rcases I.objCells h0 with ⟨hn', _⟩ | ⟨B', cs', e', hB', hh', hn', hc⟩
      · rw [h1] at hn'; cases hn'
      rw [h1] at hB'
      cases hB'
      rw [h4] at hh'
      cases hh'
      have hlt : off + j < cs.size := by omega
      obtain ⟨q1, q2⟩ := hc (off + j) (by omega)
      exact ⟨cs.getD (off + j) undef, by simp [World.cell?, h4, Array.getD_eq_getD_getElem?, hlt], q1, hf j hj L a w I _ q2⟩

theorem le_freeze_ptr (hd : Ren σ σ' ρ) {i off n : Nat} {o : Ob} {g : Nat → PV} (h0 : σ.h i = some o) (hn : n ≤ o.n) (hne : ∀ k, (σ'.h k).isSome → ρ k ≠ i)
    (hf : ∀ j, j < n → Le c σ σ' ρ (o.f j) (.p (g j))) : Le c σ σ' ρ (.oat i off) (.p (.ptr n g off)) := fun L a w I v hr => by
  obtain ⟨B, h1, h2⟩ := hr
  refine ⟨B, 0, by rw [h2, Nat.zero_add], ⟨.inr (I.own _ _ h1), fun ⟨k, hk, hL⟩ => ?_⟩, fun j hj => ?_⟩
  · rw [Lr_some hk] at hL
    exact hne k hk (I.inj _ _ B (hd k hk) (by rw [h0]; rfl) hL h1)
  · rcases I.objCells h0 with ⟨hn', _⟩ | ⟨B', cs', e', hB', hh', hn', hc⟩
    · rw [h1] at hn'; cases hn'
    rw [h1] at hB'
    cases hB'
    have hlt : j < cs'.size := by omega
    obtain ⟨q1, q2⟩ := hc j (by omega)
    rw [Nat.zero_add]
    exact ⟨cs'.getD j undef, by simp [World.cell?, hh', Array.getD_eq_getD_getElem?, hlt], q1, hf j hj L a w I _ q2⟩

/-- WEAKENING. -/
theorem wk_of (ρ : Nat → Nat) (ht : ∀ k, Le c σ σ' ρ (σ.t k) (σ'.t k)) (hh : ∀ i o', σ'.h i = some o' → ∃ o, σ.h (ρ i) = some o ∧ o'.n ≤ o.n ∧ ∀ j, j < o'.n → Le c σ σ' ρ (o.f j) (o'.f j))
    (hinj : ∀ i j, (σ'.h i).isSome → (σ'.h j).isSome → ρ i = ρ j → i = j) (hu : ∀ i, σ'.u i = (σ'.h i).isSome) : Wk c σ σ' := fun L a w I => by
  have hd : Ren σ σ' ρ := fun i hi => by
    obtain ⟨o', ho'⟩ := Option.isSome_iff_exists.mp hi
    obtain ⟨o, ho, _⟩ := hh i o' ho'
    rw [ho]; rfl
  refine ⟨Lr L σ' ρ, I.below, I.defers, I.size, fun i hi => ?_, fun i o' ho' => ?_, fun i B hB => ?_, fun i j B hi hj hBi hBj => ?_, fun k => ht k L a w I _ (I.tmps k)⟩
  · rw [hu i] at hi
    unfold Lr; rw [hi]; rfl
  · obtain ⟨o, ho, hn, hf⟩ := hh i o' ho'
    have hs : (σ'.h i).isSome := by rw [ho']; rfl
    obtain ⟨B, hB, hat⟩ := I.live _ o ho
    refine ⟨B, (Lr_some hs).trans hB, ?_⟩
    cases B with
    | none => exact Nat.le_zero.mp (hat ▸ hn)
    | some b =>
      obtain ⟨cs, e, h1, h2, h3⟩ := hat
      exact ⟨cs, e, h1, by omega, fun j hj => ⟨(h3 j (by omega)).1, hf j hj L a w I _ (h3 j (by omega)).2⟩⟩
  · by_cases hs : (σ'.h i).isSome
    · rw [Lr_some hs] at hB; exact I.own _ B hB
    · unfold Lr at hB; rw [Bool.not_eq_true] at hs; rw [hs] at hB; cases hB
  · rw [Lr_some hi] at hBi
    rw [Lr_some hj] at hBj
    exact hinj i j hi hj (I.inj _ _ B (hd i hi) (hd j hj) hBi hBj)

/-- What is asked of each slot that is told. -/
def Slots (c : Cx) (σ σ' : St) (ρ : Nat → Nat) : List (Nat × AV) → Prop
  | [] => True
  | (k, x) :: l => Le c σ σ' ρ (σ.t k) x ∧ Slots c σ σ' ρ l

theorem slots_get {l : List (Nat × AV)} (h : Slots c σ σ' ρ l) : ∀ k, Le c σ σ' ρ (σ.t k) (tOf l k) := by
  induction l with
  | nil => exact fun k => le_any _
  | cons p l ih =>
    intro k
    obtain ⟨k', x⟩ := p
    simp only [tOf]
    cases hk : Nat.beq k k' with
    | true => obtain rfl := Nat.eq_of_beq_eq_true hk; exact h.1
    | false => exact ih h.2 k

/-- What is asked of each object that is told. -/
def Obs (c : Cx) (σ σ' : St) (ρ : Nat → Nat) : List (Nat × Ob) → Prop
  | [] => True
  | (i, o') :: l => (∃ o, σ.h (ρ i) = some o ∧ o'.n ≤ o.n ∧ ∀ j, j < o'.n → Le c σ σ' ρ (o.f j) (o'.f j)) ∧ Obs c σ σ' ρ l

theorem obs_get {l : List (Nat × Ob)} (h : Obs c σ σ' ρ l) : ∀ i o', hOf l i = some o' → ∃ o, σ.h (ρ i) = some o ∧ o'.n ≤ o.n ∧ ∀ j, j < o'.n → Le c σ σ' ρ (o.f j) (o'.f j) := by
  induction l with
  | nil => exact fun i o' h => by cases h
  | cons p l ih =>
    intro i o' ho
    obtain ⟨k', x⟩ := p
    simp only [hOf] at ho
    cases hk : Nat.beq i k' with
    | true =>
      rw [hk] at ho
      obtain rfl := Nat.eq_of_beq_eq_true hk
      cases ho
      exact h.1
    | false =>
      rw [hk] at ho
      exact ih h.2 i o' ho

theorem hOf_mem {l : List (Nat × Ob)} : ∀ i, (hOf l i).isSome → i ∈ l.map (·.1) := by
  induction l with
  | nil => exact fun i h => by cases h
  | cons p l ih =>
    intro i hi
    obtain ⟨k, x⟩ := p
    simp only [hOf] at hi
    cases hk : Nat.beq i k with
    | true => obtain rfl := Nat.eq_of_beq_eq_true hk; simp
    | false => rw [hk] at hi; simp [ih i hi]

/-- Numbers that are apart in the old state. -/
def injOk (ρ : Nat → Nat) (l : List Nat) : Bool := l.all fun i => l.all fun j => !Nat.beq (ρ i) (ρ j) || Nat.beq i j

/-- A STATE IS SAID ANEW: what its slots and its objects are; objects under the numbers that 'ρ' tells. -/
theorem wk (ρ : Nat → Nat) {l : List (Nat × AV)} {hs : List (Nat × Ob)} (ht : Slots c σ (mk l hs) ρ l) (ho : Obs c σ (mk l hs) ρ hs) (hi : injOk ρ (hs.map (·.1)) = true) : Wk c σ (mk l hs) :=
  wk_of ρ (slots_get ht) (obs_get ho) (fun i j hsi hsj he => by
    have h1 := List.all_eq_true.mp hi i (hOf_mem i hsi)
    have h2 := List.all_eq_true.mp h1 j (hOf_mem j hsj)
    rw [he] at h2
    simp at h2
    exact h2) (fun i => uOf_eq hs i)

theorem ren_nil {l : List (Nat × AV)} : Ren σ (mk l []) ρ := fun i h => by cases h

/-! ### results -/

theorem fz_p {x y : PV} (h : PLe x y) : FreezeLe c σ (.p x) y := fun L a w I v hr => h _ _ v (Rep.mono (fun _ _ => rfl) (fun b hb => hb.1) _ _ hr)

theorem fz_own {i off n s : Nat} {o : Ob} {g : Nat → PV} (h0 : σ.h i = some o) (hn : off + n * s ≤ o.n) (hf : ∀ j, j < n * s → FreezeLe c σ (o.f (off + j)) (g j)) : FreezeLe c σ (.own i off n s) (.sl n s g) := fun L a w I v hr => by
  rcases hr with ⟨h1, h2, h3⟩ | ⟨B, o', h1, h2, h3⟩ | ⟨B, cap, h1, h2, h3, cs, e, h4, h5⟩
  · subst h2; obtain ⟨A, h3⟩ := h3; exact ⟨A, 0, h3, Nat.le_refl _, .inl (by simp)⟩
  · subst h2; exact ⟨_, 0, h3, Nat.le_refl _, .inl (by simp)⟩
  · refine ⟨_, cap, h2, h3, .inr ⟨B, off, rfl, .inr (I.own _ _ h1), fun j hj => ?_⟩⟩
    rcases I.objCells h0 with ⟨hn', _⟩ | ⟨B', cs', e', hB', hh', hn', hc⟩
    · rw [h1] at hn'; cases hn'
    rw [h1] at hB'
    cases hB'
    rw [h4] at hh'
    cases hh'
    have hlt : off + j < cs.size := by omega
    obtain ⟨q1, q2⟩ := hc (off + j) (by omega)
    exact ⟨cs.getD (off + j) undef, by simp [World.cell?, h4, Array.getD_eq_getD_getElem?, hlt], q1, hf j hj L a w I _ q2⟩

theorem fz_oat {i off n : Nat} {o : Ob} {g : Nat → PV} (h0 : σ.h i = some o) (hn : n ≤ o.n) (hf : ∀ j, j < n → FreezeLe c σ (o.f j) (g j)) : FreezeLe c σ (.oat i off) (.ptr n g off) := fun L a w I v hr => by
  obtain ⟨B, h1, h2⟩ := hr
  refine ⟨B, 0, by rw [h2, Nat.zero_add], .inr (I.own _ _ h1), fun j hj => ?_⟩
  rcases I.objCells h0 with ⟨hn', _⟩ | ⟨B', cs', e', hB', hh', hn', hc⟩
  · rw [h1] at hn'; cases hn'
  rw [h1] at hB'
  cases hB'
  have hlt : j < cs'.size := by omega
  obtain ⟨q1, q2⟩ := hc j (by omega)
  rw [Nat.zero_add]
  exact ⟨cs'.getD j undef, by simp [World.cell?, hh', Array.getD_eq_getD_getElem?, hlt], q1, hf j hj L a w I _ q2⟩

theorem ret0 : RetLe c σ [] (.val (.tuple #[])) := .inl ⟨rfl, rfl⟩
theorem ret1 {t : Nat} {y : PV} (h : FreezeLe c σ (σ.t t) y) : RetLe c σ [.tmp t] y := .inr (.inl ⟨t, rfl, h⟩)

/-- Two values, and three. -/
def two (x y : PV) : Nat → PV
  | 0 => x
  | _ => y
def three (x y z : PV) : Nat → PV
  | 0 => x
  | 1 => y
  | _ => z

theorem ret2 {t1 t2 : Nat} {y1 y2 : PV} (h1 : FreezeLe c σ (σ.t t1) y1) (h2 : FreezeLe c σ (σ.t t2) y2) : RetLe c σ [.tmp t1, .tmp t2] (.tup 2 (two y1 y2)) :=
  .inr (.inr (.inl ⟨2, _, rfl, by simp, rfl, fun j hj => by
    match j, hj with
    | 0, _ => exact ⟨t1, rfl, h1⟩
    | 1, _ => exact ⟨t2, rfl, h2⟩⟩))

theorem ret3 {t1 t2 t3 : Nat} {y1 y2 y3 : PV} (h1 : FreezeLe c σ (σ.t t1) y1) (h2 : FreezeLe c σ (σ.t t2) y2) (h3 : FreezeLe c σ (σ.t t3) y3) : RetLe c σ [.tmp t1, .tmp t2, .tmp t3] (.tup 3 (three y1 y2 y3)) :=
  .inr (.inr (.inl ⟨3, _, rfl, by simp, rfl, fun j hj => by
    match j, hj with
    | 0, _ => exact ⟨t1, rfl, h1⟩
    | 1, _ => exact ⟨t2, rfl, h2⟩
    | 2, _ => exact ⟨t3, rfl, h3⟩⟩))

/-- A result that lies in the call's own memory. -/
theorem ret_cell {t ty id : Nat} {o : Ob} {i : TI} {g : Nat → PV} (ht : σ.t t = .oat id 0) (h0 : σ.h id = some o) (hT : c.T ty = some i) (ha : isAggT i = true) (hn : i.size ≤ o.n)
    (hf : ∀ j, j < i.size → FreezeLe c σ (o.f j) (g j)) : RetLe c σ [.cell t ty] (.agg i.size g) := .inr (.inr (.inr ⟨t, ty, rfl, fun L a w I => by
  have hr := I.tmps t
  rw [ht] at hr
  obtain ⟨B, h1, h2⟩ := hr
  rcases I.objCells h0 with ⟨hn', _⟩ | ⟨B', cs', e', hB', hh', hn', hc⟩
  · rw [h1] at hn'; cases hn'
  rw [h1] at hB'
  cases hB'
  obtain ⟨cs, k1, k2, k3⟩ := loadVar_agg (c := c.toPr) (w := w) hT ha B 0 (fun j u => Rep w (fun b => c.ok0 b ∨ (c.w0.heap.size ≤ b ∧ b < w.heap.size)) (g j) u) (fun j hj => by
    have hlt : j < cs'.size := by omega
    obtain ⟨q1, q2⟩ := hc j (by omega)
    rw [Nat.zero_add]
    exact ⟨cs'.getD j undef, by simp [World.cell?, hh', Array.getD_eq_getD_getElem?, hlt], q1, hf j hj L a w I _ q2⟩)
  exact ⟨B, 0, _, h2, k1, cs, rfl, k2, k3⟩⟩))

theorem ret_cell' {t ty id n : Nat} {o : Ob} {i : TI} {g : Nat → PV} (hT : c.T ty = some i) (hs : i.size = n) (ht : σ.t t = .oat id 0) (h0 : σ.h id = some o) (ha : isAggT i = true) (hn : n ≤ o.n)
    (hf : ∀ j, j < n → FreezeLe c σ (o.f j) (g j)) : RetLe c σ [.cell t ty] (.agg n g) := by
  subst hs
  exact ret_cell ht h0 hT ha hn hf

/-! ### steps -/

variable {Q : Exit → St → Prop}

theorem ev_rs {id : Nat} {ops : Array Oper} {y : Code} (rs : List PV) {C : Prop} (h : runF c.toPr c.N ops (zipO ops.toList rs) σ.t σ.h σ.u True = some (σ', C)) (hC : C) (hK : Ev c y Q σ') :
    Ev c (.seq (.region id ops false) y) Q σ := ev_seq (ev_region rs h hC hK)

theorem ev_ds {id : Nat} {ops : Array Oper} {y : Code} (rs : List PV) {C : Prop} (hm : c.P.follows .mixedOrders = true) (h : runF c.toPr c.N ops (zipO ops.toList rs) σ.t σ.h σ.u True = some (σ', C))
    (hD : drawOk c.toPr c.N ops rs σ.t σ.h σ.u = true) (hC : C) (hK : Ev c y Q σ') : Ev c (.seq (.region id ops true) y) Q σ := ev_seq (ev_draw rs hm h hD hC hK)

theorem ev_ct {x : Operand} {y z : Code} (hx : σ.ev c x = .p (.val (.bool true))) (h : Ev c y Q σ) : Ev c (.cond x y z) Q σ := ev_cond hx (fun _ => h) (fun e => by cases e)
theorem ev_cf {x : Operand} {y z : Code} (hx : σ.ev c x = .p (.val (.bool false))) (h : Ev c z Q σ) : Ev c (.cond x y z) Q σ := ev_cond hx (fun e => by cases e) (fun _ => h)
theorem ev_sk {y : Code} (h : Ev c y Q σ) : Ev c .skip (Seq c y Q) σ := ev_skip h

/-! ### lists of words -/

abbrev u64s (xs : List Nat) : PV := .sl xs.length 1 (fun j => u64 (xs.getD j 0))
abbrev ob64 (xs : List Nat) : Ob := ⟨xs.length, fun j => .p (u64 (xs.getD j 0))⟩

end Vinc
