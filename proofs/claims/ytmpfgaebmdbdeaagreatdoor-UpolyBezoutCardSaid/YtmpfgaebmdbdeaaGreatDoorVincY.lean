/- What becomes of a state where the call's own memory is made, written, handed on; where another function is called. -/
import Derived.Test.YtmpfgaebmdbdeaaGreatDoorVincX
import Derived.Laws.Append
set_option linter.unusedSimpArgs false
set_option linter.unusedVariables false
namespace Vinc
open Go Go.RowKit

variable {c : Cx} {σ : St} {L : Locs} {a : Act} {w : World}

theorem upd_upd {α : Type} (f : Nat → α) (k : Nat) (x y : α) : upd (upd f k x) k y = upd f k y := by
  funext i; simp only [upd]; split <;> rfl

theorem Inv.put (I : Inv c σ L a w) {d : Nat} (hd : d < c.N) {x : AV} {v : Value} (h : RepA w (σ.ok c L w) L x v) :
    Inv c ⟨upd σ.t d x, σ.h, σ.u⟩ L (a.put (some d) v) w := by
  refine ⟨I.below, I.defers, by simp [Act.put, I.size], I.fresh, I.live, I.own, I.inj, fun k => ?_⟩
  show RepA w (σ.ok c L w) L (upd σ.t d x k) _
  simp only [Act.put, upd]
  by_cases hk : k = d
  · subst hk
    rw [if_pos rfl, Array.getD_eq_getD_getElem?, Array.getElem?_setIfInBounds_self_of_lt (by rw [I.size]; exact hd)]
    exact h
  · rw [if_neg hk, Array.getD_eq_getD_getElem?, Array.getElem?_setIfInBounds_ne (fun e => hk e.symm), ← Array.getD_eq_getD_getElem?]
    exact I.tmps k

theorem ObAt.mono {w w' : World} {ok ok' : Nat → Prop} {L L' : Locs} {o : Ob} {B : Option Nat} (h : ObAt w ok L o B) (hB : ∀ b, B = some b → w'.heap[b]? = w.heap[b]?)
    (hr : ∀ x v, RepA w ok L x v → RepA w' ok' L' x v) : ObAt w' ok' L' o B := by
  cases B with
  | none => exact h
  | some b =>
    obtain ⟨cs, e, hh, hn, hc⟩ := h
    exact ⟨cs, e, (hB b rfl).trans hh, hn, fun j hj => ⟨(hc j hj).1, hr _ _ (hc j hj).2⟩⟩

/-- The general step. -/
theorem Inv.step (I : Inv c σ L a w) {h' : Nat → Option Ob} {u' : Nat → Bool} {L' : Locs} {w' : World} (hb : Below c.w0.heap.size w w')
    (hw : ∀ b, σ.ok c L w b → w'.heap[b]? = w.heap[b]?) (hok : ∀ b, σ.ok c L w b → (⟨σ.t, h', u'⟩ : St).ok c L' w' b)
    (hL : ∀ i B, L i = some B → L' i = some B) (hr : RowsKept w w' L) (hf : ∀ i, u' i = false → L' i = none)
    (hlive : ∀ i o, h' i = some o → ∃ B, L' i = some B ∧ ObAt w' ((⟨σ.t, h', u'⟩ : St).ok c L' w') L' o B)
    (hown : ∀ i B, L' i = some (some B) → c.w0.heap.size ≤ B ∧ B < w'.heap.size)
    (hinj : ∀ i j B, (h' i).isSome → (h' j).isSome → L' i = some (some B) → L' j = some (some B) → i = j) : Inv c ⟨σ.t, h', u'⟩ L' a w' :=
  ⟨I.below.trans hb, I.defers, I.size, hf, hlive, hown, hinj, fun k => RepA.mono hw hok hL hr _ _ (I.tmps k)⟩

theorem Inv.drew (I : Inv c σ L a w) : Inv c σ L a w.drew ∧ (∀ x v, RepA w (σ.ok c L w) L x v → RepA w.drew (σ.ok c L w.drew) L x v) := by
  have hmono := RepA.mono (w := w) (w' := w.drew) (ok := σ.ok c L w) (ok' := σ.ok c L w.drew) (L := L) (L' := L) (fun _ _ => rfl) (fun _ h => h) (fun _ _ h => h) (RowsKept.refl w L)
  refine ⟨⟨I.below.drew, I.defers, I.size, I.fresh, fun i o ho => ?_, I.own, I.inj, fun k => hmono _ _ (I.tmps k)⟩, hmono⟩
  obtain ⟨B, hB, hat⟩ := I.live i o ho
  exact ⟨B, hB, hat.mono (fun _ _ => rfl) hmono⟩

/-- An object is given up. -/
theorem Inv.drop (I : Inv c σ L a w) (i0 : Nat) {u' : Nat → Bool} (hu : ∀ i, u' i = false → σ.u i = false) : Inv c ⟨σ.t, upd σ.h i0 none, u'⟩ L a w := by
  have hle : ∀ i, ((upd σ.h i0 none) i).isSome → (σ.h i).isSome := by
    intro i; simp only [upd]; split
    · intro h; cases h
    · exact id
  have hok : ∀ b, σ.ok c L w b → (⟨σ.t, upd σ.h i0 none, u'⟩ : St).ok c L w b := fun b ⟨h1, h2⟩ => ⟨h1, fun ⟨i, hi, hL⟩ => h2 ⟨i, hle i hi, hL⟩⟩
  refine I.step (Below.refl _ _) (fun _ _ => rfl) hok (fun _ _ h => h) (RowsKept.refl _ _) (fun i hi => I.fresh i (hu i hi)) (fun i o ho => ?_) I.own (fun i j B hi hj => I.inj i j B (hle i hi) (hle j hj))
  have ho' : σ.h i = some o := by
    simp only [upd] at ho; split at ho
    · cases ho
    · exact ho
  obtain ⟨B, hB, hat⟩ := I.live i o ho'
  exact ⟨B, hB, hat.mono (fun _ _ => rfl) (RepA.mono (fun _ _ => rfl) hok (fun _ _ h => h) (RowsKept.refl _ _))⟩

/-- A new object, in a new block. -/
theorem Inv.alloc (I : Inv c σ L a w) {d : Nat} (hd : σ.u d = false) {u' : Nat → Bool} (hu : ∀ i, u' i = false → σ.u i = false ∧ i ≠ d) (cs : Array Value) (e : TypeId) (o : Ob) (hn : o.n ≤ cs.size)
    (hc : ∀ j, j < o.n → isCell (cs.getD j undef) = true ∧ RepA w (σ.ok c L w) L (o.f j) (cs.getD j undef)) :
    Inv c ⟨σ.t, upd σ.h d (some o), u'⟩ (upd L d (some (some w.heap.size))) a (w.alloc (.cells cs e)) ∧
    (∀ x v, RepA w (σ.ok c L w) L x v → RepA (w.alloc (.cells cs e)) ((⟨σ.t, upd σ.h d (some o), u'⟩ : St).ok c (upd L d (some (some w.heap.size))) (w.alloc (.cells cs e))) (upd L d (some (some w.heap.size))) x v) := by
  have hLd : L d = none := I.fresh d hd
  have hhd : σ.h d = none := by
    cases h : σ.h d with
    | none => rfl
    | some o => obtain ⟨B, hB, _⟩ := I.live d o h; rw [hLd] at hB; cases hB
  have hL : ∀ i B, L i = some B → (upd L d (some (some w.heap.size))) i = some B := by
    intro i B h; simp only [upd]; rw [if_neg (fun e => by subst e; rw [hLd] at h; cases h)]; exact h
  have hold : ∀ b, b < w.heap.size → (w.alloc (.cells cs e)).heap[b]? = w.heap[b]? := fun b hb => Below.heap_alloc w _ b hb
  have hnew : (w.alloc (.cells cs e)).heap[w.heap.size]? = some (.cells cs e (0, 0)) := heap_alloc_new w _
  have hszs : (w.alloc (.cells cs e)).heap.size = w.heap.size + 1 := by simp
  have hok : ∀ b, σ.ok c L w b → (⟨σ.t, upd σ.h d (some o), u'⟩ : St).ok c (upd L d (some (some w.heap.size))) (w.alloc (.cells cs e)) b := by
    intro b hb
    refine ⟨hb.1.imp id (fun h => ⟨h.1, by rw [hszs]; omega⟩), fun ⟨i, hi, hLi⟩ => ?_⟩
    simp only [upd] at hi hLi
    by_cases hid : i = d
    · rw [if_pos hid] at hLi
      have := I.ok_lt hb
      simp at hLi; omega
    · rw [if_neg hid] at hi hLi
      exact hb.2 ⟨i, hi, hLi⟩
  have hr : RowsKept w (w.alloc (.cells cs e)) L := fun i B hB c' e' h => ⟨c', (hold B (I.own i B hB).2).trans h, rfl⟩
  have hmono := RepA.mono (fun b hb => hold b (I.ok_lt hb)) hok hL hr
  refine ⟨I.step ((Below.refl _ _).alloc I.below.size _) (fun b hb => hold b (I.ok_lt hb)) hok hL hr (fun i hi => ?_) (fun i o' ho' => ?_) (fun i B hB => ?_) (fun i j B hi hj hBi hBj => ?_), hmono⟩
  · simp only [upd]; rw [if_neg (hu i hi).2]; exact I.fresh i (hu i hi).1
  · simp only [upd] at ho' ⊢
    by_cases hid : i = d
    · rw [if_pos hid] at ho'
      cases ho'
      rw [if_pos hid]
      exact ⟨_, rfl, cs, e, hnew, hn, fun j hj => ⟨(hc j hj).1, hmono _ _ (hc j hj).2⟩⟩
    · rw [if_neg hid] at ho' ⊢
      obtain ⟨B, hB, hat⟩ := I.live i o' ho'
      exact ⟨B, hB, hat.mono (fun b hb => by subst hb; exact hold b (I.own i b hB).2) hmono⟩
  · simp only [upd] at hB
    by_cases hid : i = d
    · rw [if_pos hid] at hB
      simp at hB; subst hB
      exact ⟨I.below.size, by rw [hszs]; omega⟩
    · rw [if_neg hid] at hB
      have := I.own i B hB
      exact ⟨this.1, by rw [hszs]; omega⟩
  · simp only [upd] at hi hj hBi hBj
    by_cases hid : i = d
    · by_cases hjd : j = d
      · omega
      · rw [if_pos hid] at hBi
        rw [if_neg hjd] at hBj
        have := (I.own j B hBj).2
        simp at hBi; omega
    · by_cases hjd : j = d
      · rw [if_neg hid] at hBi
        rw [if_pos hjd] at hBj
        have := (I.own i B hBi).2
        simp at hBj; omega
      · rw [if_neg hid] at hi hBi
        rw [if_neg hjd] at hj hBj
        exact I.inj i j B hi hj hBi hBj

/-- A new object that lies nowhere. -/
theorem Inv.allocNil (I : Inv c σ L a w) {d : Nat} (hd : σ.u d = false) {u' : Nat → Bool} (hu : ∀ i, u' i = false → σ.u i = false ∧ i ≠ d) (o : Ob) (hn : o.n = 0) :
    Inv c ⟨σ.t, upd σ.h d (some o), u'⟩ (upd L d (some none)) a w := by
  have hLd : L d = none := I.fresh d hd
  have hL : ∀ i B, L i = some B → (upd L d (some none)) i = some B := by
    intro i B h; simp only [upd]; rw [if_neg (fun e => by subst e; rw [hLd] at h; cases h)]; exact h
  have hok : ∀ b, σ.ok c L w b → (⟨σ.t, upd σ.h d (some o), u'⟩ : St).ok c (upd L d (some none)) w b := by
    intro b hb
    refine ⟨hb.1, fun ⟨i, hi, hLi⟩ => ?_⟩
    simp only [upd] at hi hLi
    by_cases hid : i = d
    · rw [if_pos hid] at hLi; cases hLi
    · rw [if_neg hid] at hi hLi
      exact hb.2 ⟨i, hi, hLi⟩
  have hr := RowsKept.refl w L
  have hmono := RepA.mono (w := w) (fun _ _ => rfl) hok hL hr
  refine I.step (Below.refl _ _) (fun _ _ => rfl) hok hL hr (fun i hi => ?_) (fun i o' ho' => ?_) (fun i B hB => ?_) (fun i j B hi hj hBi hBj => ?_)
  · simp only [upd]; rw [if_neg (hu i hi).2]; exact I.fresh i (hu i hi).1
  · simp only [upd] at ho' ⊢
    by_cases hid : i = d
    · rw [if_pos hid] at ho'
      cases ho'
      rw [if_pos hid]
      exact ⟨none, rfl, hn⟩
    · rw [if_neg hid] at ho' ⊢
      obtain ⟨B, hB, hat⟩ := I.live i o' ho'
      exact ⟨B, hB, hat.mono (fun _ _ => rfl) hmono⟩
  · simp only [upd] at hB
    by_cases hid : i = d
    · rw [if_pos hid] at hB; cases hB
    · rw [if_neg hid] at hB; exact I.own i B hB
  · simp only [upd] at hi hj hBi hBj
    by_cases hid : i = d
    · rw [if_pos hid] at hBi; cases hBi
    · by_cases hjd : j = d
      · rw [if_pos hjd] at hBj; cases hBj
      · rw [if_neg hid] at hi hBi
        rw [if_neg hjd] at hj hBj
        exact I.inj i j B hi hj hBi hBj

/-- An object goes on under another number. -/
theorem Inv.move (I : Inv c σ L a w) {d i0 : Nat} {o : Ob} (h0 : σ.h i0 = some o) (hd : σ.u d = false) {u' : Nat → Bool} (hu : ∀ i, u' i = false → σ.u i = false ∧ i ≠ d) :
    Inv c ⟨σ.t, upd (upd σ.h i0 none) d (some o), u'⟩ (upd L d (L i0)) a w := by
  have hLd : L d = none := I.fresh d hd
  have hne : i0 ≠ d := by
    rintro rfl
    obtain ⟨B, hB, _⟩ := I.live i0 o h0
    rw [hLd] at hB; cases hB
  have hL : ∀ i B, L i = some B → (upd L d (L i0)) i = some B := by
    intro i B h; simp only [upd]; rw [if_neg (fun e => by subst e; rw [hLd] at h; cases h)]; exact h
  have hlv : ∀ i, i ≠ d → ((upd (upd σ.h i0 none) d (some o)) i).isSome → (σ.h i).isSome ∧ i ≠ i0 := by
    intro i hid
    simp only [upd]
    rw [if_neg hid]
    by_cases h : i = i0
    · rw [if_pos h]; intro h; cases h
    · rw [if_neg h]; exact fun h' => ⟨h', h⟩
  have hok : ∀ b, σ.ok c L w b → (⟨σ.t, upd (upd σ.h i0 none) d (some o), u'⟩ : St).ok c (upd L d (L i0)) w b := by
    intro b hb
    refine ⟨hb.1, fun ⟨i, hi, hLi⟩ => ?_⟩
    by_cases hid : i = d
    · subst hid
      rw [upd_same] at hLi
      exact hb.2 ⟨i0, by rw [h0]; rfl, hLi⟩
    · rw [upd_ne _ _ hid] at hLi
      exact hb.2 ⟨i, (hlv i hid hi).1, hLi⟩
  have hr := RowsKept.refl w L
  have hmono := RepA.mono (w := w) (fun _ _ => rfl) hok hL hr
  refine I.step (Below.refl _ _) (fun _ _ => rfl) hok hL hr (fun i hi => ?_) (fun i o' ho' => ?_) (fun i B hB => ?_) (fun i j B hi hj hBi hBj => ?_)
  · simp only [upd]; rw [if_neg (hu i hi).2]; exact I.fresh i (hu i hi).1
  · by_cases hid : i = d
    · subst hid
      rw [upd_same] at ho' ⊢
      cases ho'
      obtain ⟨B, hB, hat⟩ := I.live i0 o h0
      exact ⟨B, hB, hat.mono (fun _ _ => rfl) hmono⟩
    · have hs := hlv i hid (by rw [ho']; rfl)
      rw [upd_ne _ _ hid, upd_ne _ _ hs.2] at ho'
      rw [upd_ne _ _ hid]
      obtain ⟨B, hB, hat⟩ := I.live i o' ho'
      exact ⟨B, hB, hat.mono (fun _ _ => rfl) hmono⟩
  · by_cases hid : i = d
    · subst hid; rw [upd_same] at hB; exact I.own i0 B hB
    · rw [upd_ne _ _ hid] at hB; exact I.own i B hB
  · have key : ∀ i, ((upd (upd σ.h i0 none) d (some o)) i).isSome → (upd L d (L i0)) i = some (some B) → ∃ i', (σ.h i').isSome ∧ L i' = some (some B) ∧ (i' = i0 ∧ i = d ∨ i' = i ∧ i ≠ d ∧ i ≠ i0) := by
      intro i hi hB
      by_cases hid : i = d
      · subst hid; rw [upd_same] at hB; exact ⟨i0, by rw [h0]; rfl, hB, .inl ⟨rfl, rfl⟩⟩
      · rw [upd_ne _ _ hid] at hB; exact ⟨i, (hlv i hid hi).1, hB, .inr ⟨rfl, hid, (hlv i hid hi).2⟩⟩
    obtain ⟨i', hi1, hi2, hi3⟩ := key i hi hBi
    obtain ⟨j', hj1, hj2, hj3⟩ := key j hj hBj
    have := I.inj i' j' B hi1 hj1 hi2 hj2
    rcases hi3 with ⟨a1, a2⟩ | ⟨a1, a2, a3⟩ <;> rcases hj3 with ⟨b1, b2⟩ | ⟨b1, b2, b3⟩ <;> omega

/-- An object is written over. -/
theorem Inv.write (I : Inv c σ L a w) {i0 B : Nat} {o o' : Ob} (h0 : σ.h i0 = some o) (hB : L i0 = some (some B)) {cs cs' : Array Value} {e : TypeId} (hb : w.heap[B]? = some (.cells cs e (0, 0)))
    (hsz : cs'.size = cs.size) (hn : o'.n ≤ cs'.size) (hc : ∀ j, j < o'.n → isCell (cs'.getD j undef) = true ∧ RepA w (σ.ok c L w) L (o'.f j) (cs'.getD j undef))
    {u' : Nat → Bool} (hu : ∀ i, u' i = false → σ.u i = false) :
    Inv c ⟨σ.t, upd σ.h i0 (some o'), u'⟩ L a (w.setRow B cs') ∧
    (∀ x v, RepA w (σ.ok c L w) L x v → RepA (w.setRow B cs') ((⟨σ.t, upd σ.h i0 (some o'), u'⟩ : St).ok c L (w.setRow B cs')) L x v) := by
  have hsome : ∀ i, ((upd σ.h i0 (some o')) i).isSome ↔ (σ.h i).isSome := by
    intro i; simp only [upd]; split
    · rename_i h; subst h; rw [h0]; simp
    · exact Iff.rfl
  have hother : ∀ b, b ≠ B → (w.setRow B cs').heap[b]? = w.heap[b]? := fun b hb => setRow_other w B b _ hb
  have hsame : (w.setRow B cs').heap[B]? = some (.cells cs' e (0, 0)) := setRow_heap w B cs cs' e _ hb
  have hszw : (w.setRow B cs').heap.size = w.heap.size := by simp [World.setRow]
  have hok : ∀ b, σ.ok c L w b → (⟨σ.t, upd σ.h i0 (some o'), u'⟩ : St).ok c L (w.setRow B cs') b := by
    intro b hb
    refine ⟨by rw [hszw]; exact hb.1, fun ⟨i, hi, hLi⟩ => hb.2 ⟨i, (hsome i).mp hi, hLi⟩⟩
  have hneB : ∀ b, σ.ok c L w b → b ≠ B := fun b hb e => hb.2 ⟨i0, by rw [h0]; rfl, by rw [e]; exact hB⟩
  have hr : RowsKept w (w.setRow B cs') L := by
    intro i B' hB' c' e' h
    by_cases hBB : B' = B
    · subst hBB
      rw [hb] at h
      cases h
      exact ⟨cs', hsame, hsz⟩
    · exact ⟨c', (hother B' hBB).trans h, rfl⟩
  have hmono := RepA.mono (fun b hb => hother b (hneB b hb)) hok (fun _ _ h => h) hr
  have hbel : Below c.w0.heap.size w (w.setRow B cs') := ⟨rfl, rfl, rfl, by rw [hszw]; exact Nat.le_refl _, fun k hk => hother k (by have := (I.own i0 B hB).1; omega)⟩
  refine ⟨I.step hbel (fun b hb => hother b (hneB b hb)) hok (fun _ _ h => h) hr (fun i hi => I.fresh i (hu i hi)) (fun i oo ho => ?_) (fun i B' hB' => by rw [hszw]; exact I.own i B' hB')
    (fun i j B' hi hj => I.inj i j B' ((hsome i).mp hi) ((hsome j).mp hj)), hmono⟩
  by_cases hid : i = i0
  · subst hid
    rw [upd_same] at ho
    cases ho
    exact ⟨_, hB, cs', e, hsame, hn, fun j hj => ⟨(hc j hj).1, hmono _ _ (hc j hj).2⟩⟩
  · rw [upd_ne _ _ hid] at ho
    obtain ⟨B', hB', hat⟩ := I.live i oo ho
    refine ⟨B', hB', hat.mono (fun b hb => ?_) hmono⟩
    subst hb
    refine hother b (fun e => hid ?_)
    subst e
    exact I.inj i i0 b (by rw [ho]; rfl) (by rw [h0]; rfl) hB' hB

/-- Another function was called: what was there stays. -/
theorem Inv.called (I : Inv c σ L a w) {w' : World} (hb : Below w.heap.size w w') :
    Inv c σ L a w' ∧ (∀ x v, RepA w (σ.ok c L w) L x v → RepA w' (σ.ok c L w') L x v) := by
  have hold : ∀ b, b < w.heap.size → w'.heap[b]? = w.heap[b]? := hb.block
  have hok : ∀ b, σ.ok c L w b → σ.ok c L w' b := fun b h => ⟨h.1.imp id (fun h => ⟨h.1, by have := hb.size; omega⟩), h.2⟩
  have hr : RowsKept w w' L := fun i B hB c' e' h => ⟨c', (hold B (I.own i B hB).2).trans h, rfl⟩
  have hmono := RepA.mono (fun b h => hold b (I.ok_lt h)) hok (fun _ _ h => h) hr
  refine ⟨⟨I.below.trans (hb.mono I.below.size), I.defers, I.size, I.fresh, fun i o ho => ?_, fun i B hB => ⟨(I.own i B hB).1, by have := (I.own i B hB).2; have := hb.size; omega⟩, I.inj, fun k => hmono _ _ (I.tmps k)⟩, hmono⟩
  obtain ⟨B, hB, hat⟩ := I.live i o ho
  exact ⟨B, hB, hat.mono (fun b hb' => by subst hb'; exact hold b (I.own i b hB).2) hmono⟩

/-- Another function was called, and a row that it made is the caller's own from now on. -/
theorem Inv.adopt (I : Inv c σ L a w) {d : Nat} (hd : σ.u d = false) {u' : Nat → Bool} (hu : ∀ i, u' i = false → σ.u i = false ∧ i ≠ d) {w' : World} (hb : Below w.heap.size w w') (B : Nat) (hB1 : w.heap.size ≤ B) (hB2 : B < w'.heap.size) (o : Ob)
    (hc : ∃ cs e, w'.heap[B]? = some (.cells cs e (0, 0)) ∧ o.n ≤ cs.size ∧ ∀ j, j < o.n → isCell (cs.getD j undef) = true ∧ ∃ p, o.f j = .p p ∧ Rep w' (fun _ => False) p (cs.getD j undef)) :
    Inv c ⟨σ.t, upd σ.h d (some o), u'⟩ (upd L d (some (some B))) a w' := by
  have hLd : L d = none := I.fresh d hd
  have hL : ∀ i B', L i = some B' → (upd L d (some (some B))) i = some B' := by
    intro i B' h; simp only [upd]; rw [if_neg (fun e => by subst e; rw [hLd] at h; cases h)]; exact h
  have hold : ∀ b, b < w.heap.size → w'.heap[b]? = w.heap[b]? := hb.block
  have hok : ∀ b, σ.ok c L w b → (⟨σ.t, upd σ.h d (some o), u'⟩ : St).ok c (upd L d (some (some B))) w' b := by
    intro b hb'
    refine ⟨hb'.1.imp id (fun h => ⟨h.1, by have := hb.size; omega⟩), fun ⟨i, hi, hLi⟩ => ?_⟩
    simp only [upd] at hi hLi
    by_cases hid : i = d
    · rw [if_pos hid] at hLi
      have := I.ok_lt hb'
      simp at hLi; omega
    · rw [if_neg hid] at hi hLi
      exact hb'.2 ⟨i, hi, hLi⟩
  have hr : RowsKept w w' L := fun i B' hB c' e' h => ⟨c', (hold B' (I.own i B' hB).2).trans h, rfl⟩
  have hmono := RepA.mono (fun b hb => hold b (I.ok_lt hb)) hok hL hr
  refine I.step (hb.mono I.below.size) (fun b hb => hold b (I.ok_lt hb)) hok hL hr (fun i hi => ?_) (fun i o' ho' => ?_) (fun i B' hB => ?_) (fun i j B' hi hj hBi hBj => ?_)
  · simp only [upd]; rw [if_neg (hu i hi).2]; exact I.fresh i (hu i hi).1
  · simp only [upd] at ho' ⊢
    by_cases hid : i = d
    · rw [if_pos hid] at ho'
      cases ho'
      rw [if_pos hid]
      obtain ⟨cs, e, h1, h2, h3⟩ := hc
      refine ⟨_, rfl, cs, e, h1, h2, fun j hj => ⟨(h3 j hj).1, ?_⟩⟩
      obtain ⟨p, hp, hrp⟩ := (h3 j hj).2
      rw [hp]
      exact Rep.mono (fun _ _ => rfl) (fun _ h => h.elim) _ _ hrp
    · rw [if_neg hid] at ho' ⊢
      obtain ⟨B', hB, hat⟩ := I.live i o' ho'
      exact ⟨B', hB, hat.mono (fun b hb => by subst hb; exact hold b (I.own i b hB).2) hmono⟩
  · simp only [upd] at hB
    by_cases hid : i = d
    · rw [if_pos hid] at hB
      simp at hB; subst hB
      exact ⟨Nat.le_trans I.below.size hB1, hB2⟩
    · rw [if_neg hid] at hB
      have := I.own i B' hB
      exact ⟨this.1, by have := hb.size; omega⟩
  · simp only [upd] at hi hj hBi hBj
    by_cases hid : i = d
    · by_cases hjd : j = d
      · omega
      · rw [if_pos hid] at hBi
        rw [if_neg hjd] at hj hBj
        have := (I.own j B' hBj).2
        simp at hBi; omega
    · by_cases hjd : j = d
      · rw [if_neg hid] at hi hBi
        rw [if_pos hjd] at hBj
        have := (I.own i B' hBi).2
        simp at hBj; omega
      · rw [if_neg hid] at hi hBi
        rw [if_neg hjd] at hj hBj
        exact I.inj i j B' hi hj hBi hBj

end Vinc
